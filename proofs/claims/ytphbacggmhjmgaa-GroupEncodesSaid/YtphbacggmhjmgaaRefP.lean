/- The references numbers, first part: Of, To, Add, Sub, Mul. -/
import Derived.Test.YtphbacggmhjmgaaNatR
import Derived.Test.YtphbacggmhjmgaaNatQ

/- The references' numbers, first part: digits of 16 bits; what is appended; noughts at the end; how two stand to one another. -/
namespace Go.Proofs.Ytphbacggmhjmgaa
open Go.RowKit

abbrev IntS : Rep (List Nat) := (Rep.num .i64 65536).sl
/-- a number of the references -/
def RefN : Rep Nat := IntS.ex fun n xs => Pl.Canon xs ∧ Pl.val 65536 xs = n

theorem info3 : (Try.prog.info? 3).map (fun i => (i.zero, i.size, i.bytes)) = some (some (.int .i64 0), 1, 8) := by kernel_rfl

/-- no number here is longer -/
structure Small (n : Nat) : Prop where
  lt : n < 65536 ^ 100000
theorem ref_len {xs : List Nat} (hd : Pl.Dig 65536 xs) (hc : Pl.Canon xs) {n : Nat} (hv : Pl.val 65536 xs = n) (h : Small n) : xs.length ≤ 100000 := (Pl.canon_len_le (B := 65536) (by omega) hd hc).2 (by rw [hv]; exact h.lt)
theorem Small.le {a b : Nat} (h : Small b) (hab : a ≤ b) : Small a := ⟨Nat.lt_of_le_of_lt hab h.lt⟩
theorem pow_lim (b n k l : Nat) (hb : 0 < b) (h : n < b ^ k) (hk : k ≤ l) : n < b ^ l := Nat.lt_of_lt_of_le h (Nat.pow_le_pow_right hb hk)
theorem two_pow (s b : Nat) (hb : b = 2 ^ s) (n k l : Nat) (hl : l = s * k) (h : n < b ^ k) : n < 2 ^ l := by subst hl hb; rw [Nat.pow_mul]; exact h
theorem small_limbs {n k : Nat} (h : n < B64 ^ k) (hk : k ≤ 25000) : Small n := by
  have e : B64 ^ k = 65536 ^ (4 * k) := by rw [show B64 = 65536 ^ 4 by decide, ← Nat.pow_mul]
  rw [e] at h
  exact ⟨pow_lim 65536 n (4 * k) 100000 (by omega) h (by omega)⟩
theorem RefN.zero (S : Nat → Prop) (w : World) : RefN.rep S w 0 [.slice none 0 0] := ⟨[], sl_nil _ S w, Pl.canon_nil, rfl⟩

section
variable {P : Program} {ops : Array Oper} {rest : List Oper} {o : Oper} {a : Act} {Q : Exit → Act → World → Prop} {w : World}

theorem own_free {k : IntKind} {B base : Nat} {e : TypeId} {S S' : Nat → Prop} {w : World} {xs : List Nat} {v : Value} (h : Own (Rep.num k B) base e S w xs v) : Own (Rep.num k B) base e S' w xs v := by
  obtain ⟨cs, h1, h2⟩ := h
  exact ⟨cs, h1, repL_num.2 (repL_num.1 h2)⟩

/-- 'append(v, d)': a number more -/
theorem wpList_push {k : IntKind} {B : Nat} (hgd : o.guard = none) (s x : Operand) (t e : TypeId) (ho : o.op = .call { callee := .builtin .append, args := #[s, x], argTypes := #[t, t] }) (ht : P.underlying t = some (.slice e))
    (hinfo : (P.info? e).map (fun i => (i.zero, i.size, i.bytes)) = some (some (.int k 0), 1, 8)) (W : World) (d : Nat) (hw : w = W.alloc (.cells #[.int k (d : Int)] e)) (v : Value) (xs : List Nat)
    (hs : a.eval s = v) (hx : a.eval x = .slice (some ⟨W.heap.size, 0, none⟩) 1 1) {w0 : World} (hown : Own (Rep.num k B) w0.heap.size e (fun _ => False) W xs v) (hd : d < B) (hk : (Rep.num k B).by_ = 8) (hlen : (xs.length + 1) * 8 ≤ 140737488355328)
    (hb : Below w0.heap.size w0 W)
    (h : ∀ v' w', Own (Rep.num k B) w0.heap.size e (fun _ => False) w' (xs ++ [d]) v' → Below w0.heap.size w0 w' → wpList P ops Q rest (a.put o.dst v') w') : wpList P ops Q (o :: rest) a w := by
  subst hw
  have hba := below_alloc (Below.refl W.heap.size W) (.cells #[.int k (d : Int)] e)
  have hu : (Rep.num k B).sl.rep (fun b => b = W.heap.size) (W.alloc (.cells #[.int k (d : Int)] e)) [d] [.slice (some ⟨W.heap.size, 0, none⟩) 1 1] :=
    Row.sl (r := Rep.num k B) (S := fun b => b = W.heap.size) (xs := [d]) (Row.new W e #[.int k (d : Int)]) rfl (RepL.single ⟨rfl, hd⟩) 1 (by simp) (by omega) (by rw [hk]; simp)
  have hown' := own_free (S' := fun b => b = W.heap.size) (hown.below hba (fun b hb => hb.elim))
  refine wpList_append_rep hgd s x t e (.int k 0) 8 ho ht hinfo rfl (by show 0 < 1; omega) (by omega) w0.heap.size v xs _ [d] hs hx hown' hu (by simpa using hlen) (by have := hb.size; simp; omega) ?_ ?_
  · rintro b rfl
    refine ⟨by simp, fun e => ?_⟩
    have := (hown.blk _ e.symm).2
    omega
  · intro v' w' h1 h2 _
    exact h v' w' (own_free h1) ((below_trans hb hba).grown h2 (by have := hb.size; simp; omega) (fun k' hk' => (hown.blk k' hk').1))
end

set_option maxHeartbeats 400000 in
theorem rtrim_walk (w : World) (S : Nat → Prop) (A : Option Addr) (xs : List Nat) (cap : Nat) (h : IntS.rep S w xs [.slice A xs.length cap]) :
    Calls Try.prog 47 #[.slice A xs.length cap] w fun e w' => e = .returned (.slice A (Pl.trimN xs xs.length) cap) ∧ w = w' := by
  obtain ⟨_, hc, hm⟩ := sl_cap h
  go_enter Try.func47, Try.ntmps47
  go_wp2
  go_loop [3] (fun n => ∃ k : Nat, k ≤ xs.length ∧ n = .int .i64 k ∧ Pl.trimN xs xs.length = Pl.trimN xs k) (fun n => (intOf n).toNat)
  case atStart => exact ⟨_, Nat.le_refl _, rfl, rfl⟩
  case round =>
    obtain ⟨k, hk, rfl, ht⟩ := hrel
    have Ht := hid ht; clear ht
    cases k with
    | zero =>
      go_wp2
      go_ret
      exact ⟨by rw [Ht.out]; rfl, rfl⟩
    | succ k =>
      obtain ⟨b, o, rfl, _, hcell, _⟩ := num_at h k (by omega)
      have Hd := hid (dec_at xs k (by omega))
      by_cases hz : xs[k] = 0
      · have hz' : ((xs[k] : Int) == 0) = true := by simp [hz]
        have Hz := hid hz; clear hz
        go_wp2
        go_round
        case rel => exact ⟨k, by omega, rfl, by rw [Ht.out, Pl.trimN, Hd.out, if_pos Hz.out]⟩
        case measure => simp [intOf]
      · have hz' : ((xs[k] : Int) == 0) = false := by simp [hz]
        go_wp2
        go_ret
        exact ⟨by rw [Ht.out, Pl.trimN, Hd.out, if_neg hz]; rfl, rfl⟩

theorem rtrim_calls {w : World} {S : Nat → Prop} {xs : List Nat} {v : Value} (h : IntS.rep S w xs [v]) :
    Calls Try.prog 47 #[v] w fun e w' => (∃ u, e = .returned u ∧ IntS.rep S w (Pl.trim xs) [u]) ∧ w = w' := by
  obtain ⟨A, cap, rfl, hc, hm⟩ := sl_open h
  refine (rtrim_walk w S A xs cap h).mono fun e w' ⟨he, hw⟩ => ⟨⟨_, he, ?_⟩, hw⟩
  have hle := Pl.trimN_le xs xs.length
  have := sl_cut h 0 (Pl.trimN xs xs.length) (Nat.zero_le _) hle A (fun _ b o e => by simpa using e) (Pl.trimN xs xs.length) cap rfl (by omega) hm
  simpa [Pl.trim] using this

set_option maxHeartbeats 400000 in
theorem limbs_calls {w : World} {S : Nat → Prop} {n : Nat} {v : Value} (hr : RawN.rep S w n [v]) :
    Calls Try.prog 61 #[v] w fun e w' => (∃ l : Nat, e = .returned (.int .i64 (l : Int)) ∧ ∀ k, l ≤ k ↔ n < B64 ^ k) ∧ w = w' := by
  obtain ⟨xs, h, ea⟩ := hr
  have hd := num_dig h
  obtain ⟨A, cap, rfl, hc, hm⟩ := sl_open h
  have hfin : ∀ k, Pl.trimN xs xs.length ≤ k ↔ n < B64 ^ k := by
    intro k
    rw [← Pl.trim_length, Pl.canon_len_le B64_gt (Pl.trim_dig hd) (Pl.trim_canon xs), Pl.trim_val, ea]
  have Hfin := hid hfin
  have Ea := hid ea
  clear hfin ea
  go_enter Try.func61, Try.ntmps61
  go_wp2
  go_loop [3] (fun n => ∃ k : Nat, k ≤ xs.length ∧ n = .int .i64 k ∧ Pl.trimN xs xs.length = Pl.trimN xs k) (fun n => (intOf n).toNat)
  case atStart => exact ⟨_, Nat.le_refl _, rfl, rfl⟩
  case round =>
    obtain ⟨k, hk, rfl, ht⟩ := hrel
    have Ht := hid ht; clear ht
    cases k with
    | zero =>
      go_wp2
      go_ret
      exact ⟨⟨Pl.trimN xs xs.length, by rw [Ht.out]; rfl, Hfin.out⟩, rfl⟩
    | succ k =>
      obtain ⟨b, o, rfl, _, hcell, _⟩ := num_at h k (by omega)
      have Hd := hid (dec_at xs k (by omega))
      by_cases hz : xs[k] = 0
      · have hz' : ((xs[k] : Int) == 0) = true := by simp [hz]
        have Hz := hid hz; clear hz
        go_wp2
        go_round
        case rel => exact ⟨k, by omega, rfl, by rw [Ht.out, Pl.trimN, Hd.out, if_pos Hz.out]⟩
        case measure => simp [intOf]
      · have hz' : ((xs[k] : Int) == 0) = false := by simp [hz]
        go_wp2
        go_ret
        exact ⟨⟨Pl.trimN xs xs.length, by rw [Ht.out, Pl.trimN, Hd.out, if_neg hz]; rfl, Hfin.out⟩, rfl⟩

set_option maxHeartbeats 400000 in
theorem rsame_calls {w : World} {S T : Nat → Prop} {xs ys : List Nat} {va vb : Value} (ha : NatS.rep S w xs [va]) (hb : NatS.rep T w ys [vb]) :
    Calls Try.prog 11 #[va, vb] w fun e w' => e = .returned (.bool (decide (xs = ys))) ∧ Still w w' := by
  obtain ⟨A, c1, rfl, hc1, hm1⟩ := sl_open ha
  obtain ⟨A', c2, rfl, hc2, hm2⟩ := sl_open hb
  go_enter Try.func11, Try.ntmps11
  by_cases hl : xs.length = ys.length
  · have h1 : ((xs.length : Int) == (ys.length : Int)) = true := by simp; omega
    have Hl := hid hl
    clear hl
    go_wp2
    go_loopw [5] (fun i wr => ∃ k : Nat, k ≤ xs.length ∧ i = .int .i64 (k : Int) ∧ Hid (xs.take k = ys.take k) ∧ Still w wr) (fun i _ => xs.length - (intOf i).toNat)
    case atStart => exact ⟨0, by omega, rfl, hid (by simp), Still.refl w⟩
    case round =>
      obtain ⟨k, hk, rfl, ht, hst⟩ := hrel
      by_cases hlt : k < xs.length
      · have hlt2 : k < ys.length := by rw [← Hl.out]; exact hlt
        obtain ⟨b, o, rfl, _, hcell, _⟩ := num_at (hst.rep _ ha) k hlt
        obtain ⟨b', o', rfl, _, hcell', _⟩ := num_at (hst.rep _ hb) k hlt2
        have hi0 : (0 : Int) ≤ (k : Int) := by omega
        have hi1 : (k : Int) < (xs.length : Int) := by omega
        have hi2 : (k : Int) < (ys.length : Int) := by omega
        by_cases he : xs[k] = ys[k]
        · have hne : ((xs[k] : Int) != (ys[k] : Int)) = false := by simp [he]
          have hne2 : ((xs[k] : Int) == (ys[k] : Int)) = true := by simp [he]
          have ht2 : Hid (xs.take (k + 1) = ys.take (k + 1)) := by
            show _ = _
            rw [List.take_succ_eq_append_getElem hlt, List.take_succ_eq_append_getElem hlt2, ht.out, he]
          clear he ht
          go_wp2_with fail
          go_quiet (fail)
          obtain ⟨w2, hw2⟩ : ∃ w2, w2 = wr.drewN nq := ⟨_, rfl⟩
          rw [← hw2]
          have hst2 : Still w w2 := by rw [hw2]; exact hst.trans (Still.drewN _ _)
          clear hw2
          go_wp2
          go_roundw
          case rel => exact ⟨k + 1, by omega, by go_num, ht2, hst2⟩
          case measure => simp [intOf]; omega
        · have hne : ((xs[k] : Int) != (ys[k] : Int)) = true := by simp; omega
          have hne2 : ((xs[k] : Int) == (ys[k] : Int)) = false := by simp; omega
          have hfin : Hid (decide (xs = ys) = false) := by
            show _ = _
            rw [decide_eq_false_iff_not]
            intro h; subst h; exact he rfl
          clear he ht
          go_wp2_with fail
          go_quiet (fail)
          obtain ⟨w2, hw2⟩ : ∃ w2, w2 = wr.drewN nq := ⟨_, rfl⟩
          rw [← hw2]
          have hst2 : Still w w2 := by rw [hw2]; exact hst.trans (Still.drewN _ _)
          clear hw2
          go_wp2
          go_ret
          exact ⟨by rw [hfin.out]; rfl, hst2⟩
      · have hfin : Hid (decide (xs = ys) = true) := by
          show _ = _
          rw [decide_eq_true_eq]
          have := ht.out
          rwa [List.take_of_length_le (by omega), List.take_of_length_le (by rw [← Hl.out]; omega)] at this
        clear ht
        go_wp2
        go_ret
        exact ⟨by rw [hfin.out]; rfl, hst⟩
  · have h1 : ((xs.length : Int) == (ys.length : Int)) = false := by simp; omega
    have hfin : Hid (decide (xs = ys) = false) := by
      show _ = _
      rw [decide_eq_false_iff_not]
      intro h; subst h; exact hl rfl
    clear hl
    go_wp2
    go_ret
    exact ⟨by rw [hfin.out]; rfl, Still.refl w⟩

theorem at_calls {w : World} {S : Nat → Prop} {xs : List Nat} {v : Value} (h : IntS.rep S w xs [v]) (i : Nat) (_hi : i ≤ 1000000000000) :
    Calls Try.prog 55 #[v, .int .i64 (i : Int)] w fun e w' => e = .returned (.int .i64 ((xs.getD i 0 : Nat) : Int)) ∧ w = w' := by
  obtain ⟨A, cap, rfl, hc, hm⟩ := sl_open h
  go_enter Try.func55, Try.ntmps55
  by_cases hlt : i < xs.length
  · obtain ⟨b, o, rfl, _, hcell, _⟩ := num_at h i hlt
    have hd := hid (dec_at xs i hlt)
    go_wp2
    go_ret
    exact ⟨by rw [hd.out]; rfl, rfl⟩
  · have hd : Hid (xs.getD i 0 = 0) := by show _ = _; rw [List.getD_eq_getElem?_getD, List.getElem?_eq_none (by omega)]; rfl
    go_wp2
    go_ret
    exact ⟨by rw [hd.out]; rfl, rfl⟩

end Go.Proofs.Ytphbacggmhjmgaa

/- The references' numbers, second part: of digits of 64 bits, and back; how two stand to one another. -/
namespace Go.Proofs.Ytphbacggmhjmgaa
open Go.RowKit

theorem B64_16 : B64 = 65536 ^ 4 := by decide
theorem B64_pow16 (i : Nat) : B64 ^ i = 65536 ^ (4 * i) := by rw [B64_16, ← Nat.pow_mul]

theorem u64_wrap_nat2 {a b : Nat} (h : a + b < B64) : IntKind.u64.wrap ((a : Int) + (b : Int)) = ((a + b : Nat) : Int) :=
  u64_eq (by push_cast; rfl) h
theorem own_ref {w w' : World} {ds : List Nat} {v : Value} (h : Own (Rep.num .i64 65536) w.heap.size 3 (fun _ => False) w' ds v) (hl : ds.length * 8 ≤ 140737488355328) : IntS.rep (Fresh w w') w' ds [v] :=
  (own_free (S' := Fresh w w') h).slFresh hl

set_option maxHeartbeats 2000000 in
theorem of_calls {w : World} {S : Nat → Prop} {xs : List Nat} {v : Value} (h : NatS.rep S w xs [v]) (hl : xs.length ≤ 20000) :
    Calls Try.prog 16 #[v] w fun e w' => (∃ u, e = .returned u ∧ RefN.rep (Fresh w w') w' (Pl.val B64 xs) [u]) ∧ Below w.heap.size w w' := by
  have hd := num_dig h
  obtain ⟨A, cap, rfl, hc, hm⟩ := sl_open h
  go_enter Try.func16, Try.ntmps16
  go_wp2_with fail
  go_loopw [3, 4] (fun ov iv wr => ∃ (i : Nat) (ds : List Nat), iv = .int .i64 (i : Int) ∧ i ≤ xs.length ∧ ds.length = 4 * i ∧ Pl.Dig 65536 ds ∧ Hid (Pl.val 65536 ds = Pl.val B64 (xs.take i)) ∧ Own (Rep.num .i64 65536) w.heap.size 3 (fun _ => False) wr ds ov ∧ Below w.heap.size w wr) (fun _ iv _ => xs.length - (intOf iv).toNat)
  case atStart => exact ⟨0, [], rfl, by omega, rfl, Pl.Dig.nil _, hid rfl, Own.nil _ _ _ _ _, Below.refl _ _⟩
  case round =>
    obtain ⟨i, ds, rfl, hi, hdl, hdd, hv, hown, hB⟩ := hrel
    obtain ⟨wo, rfl⟩ : ∃ wo : World, wo = wr := ⟨_, rfl⟩
    by_cases hlt : i < xs.length
    · obtain ⟨b, o, rfl, _, hcell, hbd⟩ := num_at ((Rep.num .u64 B64).sl.below h hB) i hlt
      obtain ⟨x, hx⟩ : ∃ x, x = xs[i] := ⟨_, rfl⟩
      rw [← hx] at hcell hbd
      have Hx := hid hx
      have Hdl := hid hdl
      clear hx hdl
      go_wp2_with fail
      go_loopw [3, 5, 6] (fun ov yv kv wr => ∃ (k y : Nat) (es : List Nat), kv = .int .i64 (k : Int) ∧ yv = .int .u64 (y : Int) ∧ k ≤ 4 ∧ y < B64 ∧ es.length = 4 * i + k ∧ Pl.Dig 65536 es ∧ Hid (Pl.val 65536 es + 65536 ^ (4 * i + k) * y = Pl.val 65536 ds + 65536 ^ (4 * i) * x) ∧ Hid (y * 65536 ^ k ≤ x) ∧ Own (Rep.num .i64 65536) w.heap.size 3 (fun _ => False) wr es ov ∧ Below w.heap.size w wr) (fun _ _ kv _ => 4 - (intOf kv).toNat)
      case atStart => exact ⟨0, x, ds, rfl, rfl, by omega, hbd, Hdl.out, hdd, hid rfl, hid (by simp), hown, hB⟩
      case round =>
        clear hown hB hcell
        obtain ⟨k, y, es, rfl, rfl, hk, hy, hel, hed, hinv, hle, hown, hB⟩ := hrel
        obtain ⟨wp, rfl⟩ : ∃ wp : World, wp = wr := ⟨_, rfl⟩
        have Hel := hid hel
        by_cases hk4 : k < 4
        · obtain ⟨D, hD⟩ : ∃ D, D = y % 65536 := ⟨_, rfl⟩
          obtain ⟨Y, hY⟩ : ∃ Y, Y = y / 65536 := ⟨_, rfl⟩
          have q1 : (y : Int) % 65536 = (D : Int) := by omega
          have q2 : (y : Int) / 65536 = (Y : Int) := by omega
          have q3 : IntKind.u64.wrap (Y : Int) = (Y : Int) := u64_eq rfl (by unfold B64 at hy; omega)
          have hDb : D < 65536 := by omega
          have hYb : Y < B64 := by omega
          have hinv2 : Hid (Pl.val 65536 (es ++ [D]) + 65536 ^ (4 * i + (k + 1)) * Y = Pl.val 65536 ds + 65536 ^ (4 * i) * x) := by
            show _ = _
            rw [← hinv.out, Pl.val_snoc, hel, show 4 * i + (k + 1) = (4 * i + k) + 1 by omega, Nat.pow_succ, Nat.mul_assoc, Nat.add_assoc, ← Nat.mul_add]
            congr 2; omega
          have hle2 : Hid (Y * 65536 ^ (k + 1) ≤ x) := by
            refine Nat.le_trans ?_ hle.out
            rw [Nat.pow_succ, Nat.mul_comm (65536 ^ k), ← Nat.mul_assoc]
            exact Nat.mul_le_mul_right _ (by omega)
          have hel2 : Hid ((es ++ [D]).length = 4 * i + (k + 1)) := by show _ = _; simp; omega
          have hes : (es.length + 1) * 8 ≤ 140737488355328 := by omega
          have hedn := hed.append (Pl.Dig.one hDb)
          clear hD hY hinv hle hel
          go_wp2_with (at_builtin; refine wpList_push (B := 65536) rfl _ _ 35 3 rfl Try.underlying35 info3 wp D rfl _ es rfl rfl hown hDb rfl hes hB ?_)
          intro v' w' hown' hb'
          go_wp2_with fail
          go_roundw
          case rel => exact ⟨k + 1, Y, _, by go_num, rfl, by omega, hYb, hel2.out, hedn, hinv2, hle2, hown', hb'⟩
          case measure => simp [intOf] <;> omega
        · obtain rfl : k = 4 := by omega
          have hy0 : y = 0 := by
            have := hle.out
            rw [Hx.out] at this
            have h2 := hd.at i hlt
            rw [← Hx.out] at h2 this
            rw [B64_16] at h2
            rcases Nat.eq_zero_or_pos y with h0 | h0
            · exact h0
            · have : 1 * 65536 ^ 4 ≤ y * 65536 ^ 4 := Nat.mul_le_mul_right _ h0
              omega
          have hv2 : Hid (Pl.val 65536 es = Pl.val B64 (xs.take (i + 1))) := by
            show _ = _
            have h1 := hinv.out
            rw [hy0, Nat.mul_zero, Nat.add_zero] at h1
            rw [h1, Pl.val_take_succ B64 xs i hlt, hv.out, Hx.out, B64_pow16]
          have hel2 : Hid (es.length = 4 * (i + 1)) := by show _ = _; omega
          clear hinv hle hel hy0 hv
          go_wp2_with fail
          go_roundw
          case rel => exact ⟨i + 1, es, by go_num, by omega, hel2.out, hed, hv2, hown, hB⟩
          case measure => simp [intOf] <;> omega
    · obtain rfl : i = xs.length := by omega
      have hv2 := hv.out
      rw [List.take_length] at hv2
      have Hv2 := hid hv2
      have hsl := own_ref hown (by omega)
      clear hv hv2 hdl
      go_wp2_with fail
      refine (rtrim_calls hsl).mono ?_
      rintro e w' ⟨⟨u, rfl, hu⟩, rfl⟩
      go_wp2
      go_ret
      exact ⟨⟨_, rfl, _, hu, Pl.trim_canon _, by rw [Pl.trim_val]; exact Hv2.out⟩, hB⟩

theorem of_num {w : World} {S : Nat → Prop} {n : Nat} {v : Value} (h : NumN.rep S w n [v]) (hn : n < B64 ^ 20000) :
    Calls Try.prog 16 #[v] w fun e w' => (∃ u, e = .returned u ∧ RefN.rep (Fresh w w') w' n [u]) ∧ Below w.heap.size w w' := by
  obtain ⟨xs, hx, hc, rfl⟩ := h
  exact of_calls hx ((Pl.canon_len_le B64_gt (num_dig hx) hc).2 hn)

set_option maxHeartbeats 1000000 in
theorem rcmp_calls {w : World} {S T : Nat → Prop} {m n : Nat} {va vb : Value} (ha : RefN.rep S w m [va]) (hb : RefN.rep T w n [vb]) :
    Calls Try.prog 48 #[va, vb] w fun e w' => e = .returned (.int .i64 (Pl.cmp m n)) ∧ Still w w' := by
  obtain ⟨p, hu, ca, ea⟩ := ha
  obtain ⟨q, hu', cb, eb⟩ := hb
  have da := num_dig hu
  have db := num_dig hu'
  have h16 : 0 < 65536 := by omega
  obtain ⟨A, c1, rfl, hc1, hm1⟩ := sl_open hu
  obtain ⟨A', c2, rfl, hc2, hm2⟩ := sl_open hu'
  have Ea := hid ea
  have Eb := hid eb
  clear ea eb
  go_enter Try.func48, Try.ntmps48
  rcases Nat.lt_trichotomy p.length q.length with hlt | heq | hgt
  · have hv := Pl.val_lt_of_len h16 da cb hlt
    rw [Ea.out, Eb.out] at hv
    have h1 : ((p.length : Int) == (q.length : Int)) = false := by simp; omega
    go_wp2
    go_ret
    exact ⟨ret_int (by unfold Pl.cmp; rw [if_pos hv]), Still.refl w⟩
  · have Heq := hid heq; clear heq
    have h1 : ((p.length : Int) == (q.length : Int)) = true := by have := Heq.out; simp; omega
    go_wp2
    go_loopw [5] (fun i wr => ∃ k : Nat, k ≤ p.length ∧ i = .int .i64 ((k : Int) - 1) ∧ Hid (Pl.val 65536 (p.drop k) = Pl.val 65536 (q.drop k)) ∧ Still w wr) (fun i _ => (intOf i + 1).toNat)
    case atStart => exact ⟨_, Nat.le_refl _, rfl, hid (by rw [List.drop_of_length_le (Nat.le_refl _), List.drop_of_length_le (by rw [Heq.out]; exact Nat.le_refl _)]), Still.refl w⟩
    case round =>
      obtain ⟨k, hk, rfl, hv, hst⟩ := hrel
      cases k with
      | zero =>
        have hv := hv.out
        rw [List.drop_zero, List.drop_zero, Ea.out, Eb.out] at hv
        subst hv
        go_wp2
        go_ret
        exact ⟨ret_int (by unfold Pl.cmp; rw [if_neg (by omega), if_neg (by omega)]), hst⟩
      | succ k =>
        have hk' : k < q.length := by have := Heq.out; omega
        obtain ⟨b, o, rfl, _, hcell, _⟩ := num_at (hst.rep _ hu) k (by omega)
        obtain ⟨b', o', rfl, _, hcell', _⟩ := num_at (hst.rep _ hu') k (by omega)
        rw [show (((k + 1 : Nat) : Int) - 1) = (k : Int) by omega]
        have hi0 : (0 : Int) ≤ (k : Int) := by omega
        have hi1 : (k : Int) < (p.length : Int) := by omega
        have hi2 : (k : Int) < (q.length : Int) := by omega
        rcases Nat.lt_trichotomy p[k] q[k] with hlt | he | hgt
        · have hx := Pl.val_lt_at da k hk hk' hv.out hlt
          rw [Ea.out, Eb.out] at hx
          go_wp2_with fail
          go_quiet (fail)
          go_wp2
          go_ret
          exact ⟨ret_int (by unfold Pl.cmp; rw [if_pos hx]), hst.trans (Still.drewN _ _)⟩
        · have hle : p[k] ≤ q[k] := by omega
          have hge : q[k] ≤ p[k] := by omega
          have hx : Hid (Pl.val 65536 (p.drop k) = Pl.val 65536 (q.drop k)) := by
            show _ = _
            rw [Pl.val_drop 65536 p k hk, Pl.val_drop 65536 q k hk', hv.out, he]
          clear he hv
          go_wp2_with fail
          go_quiet (fail)
          go_wp2_with fail
          go_quiet (fail)
          go_wp2
          go_roundw
          case rel => exact ⟨k, by omega, by go_num, hx, hst.trans (Still.drewN _ _)⟩
          case measure => simp [intOf]
        · have hx := Pl.val_lt_at db k hk' hk hv.out.symm hgt
          rw [Ea.out, Eb.out] at hx
          go_wp2_with fail
          go_quiet (fail)
          go_wp2_with fail
          go_quiet (fail)
          go_wp2
          go_ret
          exact ⟨ret_int (by unfold Pl.cmp; rw [if_neg (by omega), if_pos hx]), hst.trans ((Still.drewN _ _).trans (Still.drewN _ _))⟩
  · have hv := Pl.val_lt_of_len h16 db ca hgt
    rw [Ea.out, Eb.out] at hv
    have h1 : ((p.length : Int) == (q.length : Int)) = false := by simp; omega
    go_wp2
    go_ret
    exact ⟨ret_int (by unfold Pl.cmp; rw [if_neg (by omega), if_pos hv]), Still.refl w⟩

theorem take_drop_succ {xs : List Nat} {i k : Nat} (hi : i < xs.length) (hk : 0 < k) : (xs.drop i).take k = xs[i] :: (xs.drop (i + 1)).take (k - 1) := by
  rw [List.drop_eq_getElem_cons hi]
  obtain ⟨j, rfl⟩ : ∃ j, k = j + 1 := ⟨k - 1, by omega⟩
  rfl

set_option maxHeartbeats 2000000 in
set_option maxRecDepth 100000 in
theorem to_calls {w : World} {S : Nat → Prop} {n : Nat} {v : Value} (h0 : RefN.rep S w n [v]) (hn : Small n) :
    Calls Try.prog 12 #[v] w fun e w' => (∃ u, e = .returned u ∧ NumN.rep (Fresh w w') w' n [u]) ∧ Below w.heap.size w w' := by
  obtain ⟨xs, h, hcn, ea⟩ := h0
  have hd := num_dig h
  have hl := ref_len hd hcn ea hn
  clear hn
  obtain ⟨A, cap, rfl, hc, hm⟩ := sl_open h
  have Ea := hid ea
  clear ea
  go_enter Try.func12, Try.ntmps12
  go_wp2_with fail
  go_loopw [3, 4] (fun ov iv wr => ∃ (q : Nat) (ds : List Nat), iv = .int .i64 ((4 * q : Nat) : Int) ∧ 4 * q < xs.length + 4 ∧ ds.length = q ∧ Pl.Dig B64 ds ∧ Hid (Pl.val B64 ds = Pl.val 65536 (xs.take (4 * q))) ∧ Own (Rep.num .u64 B64) w.heap.size 65 (fun _ => False) wr ds ov ∧ Below w.heap.size w wr) (fun _ iv _ => xs.length + 4 - (intOf iv).toNat)
  case atStart => exact ⟨0, [], rfl, by omega, rfl, Pl.Dig.nil _, hid rfl, Own.nil _ _ _ _ _, Below.refl _ _⟩
  case round =>
    obtain ⟨q, ds, rfl, hq, hdl, hdd, hv, hown, hB⟩ := hrel
    obtain ⟨wo, rfl⟩ : ∃ wo : World, wo = wr := ⟨_, rfl⟩
    have Hdl := hid hdl
    clear hdl
    obtain ⟨i, hi⟩ : ∃ i, i = 4 * q := ⟨_, rfl⟩
    rw [← hi] at hq hv ⊢
    have Hi := hid hi
    clear hi
    by_cases hlt : i < xs.length
    · go_wp2_with fail
      go_loop [5, 6] (fun vv kv => ∃ (k d : Nat), kv = .int .i64 ((k : Int) - 1) ∧ vv = .int .u64 (d : Int) ∧ k ≤ 4 ∧ Hid (d = Pl.val 65536 ((xs.drop (i + k)).take (4 - k)))) (fun _ kv => (intOf kv + 1).toNat)
      case atStart => exact ⟨4, 0, rfl, rfl, by omega, hid (by rw [Nat.sub_self, List.take_zero]; rfl)⟩
      case round =>
        obtain ⟨k, d, rfl, rfl, hk, hdv⟩ := hrel
        have hdb : d < 65536 ^ (4 - k) := by
          rw [hdv.out]
          refine Nat.lt_of_lt_of_le (Pl.val_lt ((hd.drop _).take _)) (Nat.pow_le_pow_right (by omega) (by rw [List.length_take]; omega))
        cases k with
        | succ k =>
          rw [show (((k + 1 : Nat) : Int) - 1) = (k : Int) by omega]
          have hdb2 : d * 65536 < 65536 ^ (4 - k) := by
            have e : 65536 ^ (4 - k) = 65536 ^ (4 - (k + 1)) * 65536 := by rw [← Nat.pow_succ]; congr 1; omega
            rw [e]; omega
          have hdb4 : 65536 ^ (4 - k) ≤ 65536 ^ 4 := Nat.pow_le_pow_right (by omega) (by omega)
          rw [← B64_16] at hdb4
          obtain ⟨D, hD⟩ : ∃ D, D = d * 65536 := ⟨_, rfl⟩
          have q1 : IntKind.u64.wrap ((d : Int) * 65536) = (D : Int) := u64_eq (by rw [hD]; exact (Int.natCast_mul d 65536).symm) (by have h9 : B64 = 18446744073709551616 := rfl; omega)
          by_cases hin : i + k < xs.length
          · obtain ⟨b, o, rfl, _, hcell, hxb⟩ := num_at ((Rep.num .i64 65536).sl.below h hB) (i + k) hin
            obtain ⟨x, hx⟩ : ∃ x, x = xs[i + k] := ⟨_, rfl⟩
            rw [← hx] at hcell hxb
            obtain ⟨E, hE⟩ : ∃ E, E = D + x := ⟨_, rfl⟩
            have hEv : E = Pl.val 65536 ((xs.drop (i + k)).take (4 - k)) := by
              rw [take_drop_succ hin (by omega), Pl.val_cons, hE, hD, hx, hdv.out, show 4 - (k + 1) = 4 - k - 1 by omega, show i + (k + 1) = i + k + 1 by omega, Nat.mul_comm]; omega
            have hEb : E < B64 := by
              rw [hEv]
              refine Nat.lt_of_lt_of_le (Pl.val_lt ((hd.drop _).take _)) (Nat.le_trans (Nat.pow_le_pow_right (by omega) (by rw [List.length_take]; omega)) hdb4)
            have q2 : IntKind.u64.wrap ((D : Int) + (x : Int)) = (E : Int) := by rw [hE]; exact u64_wrap_nat2 (by omega)
            have q4 : IntKind.u64.wrap (x : Int) = (x : Int) := u64_eq rfl (by omega)
            have HEv := hid hEv
            clear hD hE hx hEv hdv hdb hdb2 hdb4
            go_wp2_with fail
            go_round
            case rel => exact ⟨k, E, rfl, rfl, by omega, HEv⟩
            case measure => simp [intOf]
          · have hD0 : D = 0 := by
              rw [hD, hdv.out, List.drop_of_length_le (by omega)]; simp [Pl.val]
            have hDv : Hid (D = Pl.val 65536 ((xs.drop (i + k)).take (4 - k))) := by
              show _ = _
              rw [hD0, List.drop_of_length_le (by omega)]; simp [Pl.val]
            clear hD hD0 hdv hdb hdb2 hdb4
            go_wp2_with fail
            go_round
            case rel => exact ⟨k, D, rfl, rfl, by omega, hDv⟩
            case measure => simp [intOf]
        | zero =>
          have hdb' : d < B64 := by rw [B64_16]; exact hdb
          have hv2 : Hid (Pl.val B64 (ds ++ [d]) = Pl.val 65536 (xs.take (4 * (q + 1)))) := by
            show _ = _
            have h1 : xs.take (4 * (q + 1)) = xs.take i ++ (xs.drop i).take 4 := by
              rw [show 4 * (q + 1) = i + 4 by have := Hi.out; omega, List.take_add]
            have h2 : (xs.take i).length = i := by rw [List.length_take]; omega
            have h3 := hdv.out
            rw [Nat.add_zero, Nat.sub_zero] at h3
            rw [Pl.val_snoc, hv.out, h1, Pl.val_append, h2, ← h3, Hdl.out, B64_pow16, ← Hi.out]
          have hdn := hdd.append (Pl.Dig.one hdb')
          have hds : (ds.length + 1) * 8 ≤ 140737488355328 := by have := Hdl.out; have := Hi.out; omega
          have hln : Hid ((ds ++ [d]).length = q + 1) := by show _ = _; have := Hdl.out; simp; omega
          have hi4 : Hid ((i : Int) + 4 = ((4 * (q + 1) : Nat) : Int)) := by show _ = _; have := Hi.out; omega
          have hq2 : 4 * (q + 1) < xs.length + 4 := by have := Hi.out; omega
          clear hv hdv hdb
          go_wp2_with (at_builtin; refine wpList_push (B := B64) rfl _ _ 23 65 rfl Try.underlying23 info65 wo d rfl _ ds rfl rfl hown hdb' rfl hds hB ?_)
          intro v' w' hown' hb'
          go_wp2_with fail
          rw [hi4.out]
          go_roundw
          case rel => exact ⟨q + 1, _, rfl, hq2, hln.out, hdn, hv2, hown', hb'⟩
          case measure =>
            have := Hi.out
            simp [intOf]
            omega
    · have hv2 := hv.out
      rw [List.take_of_length_le (by omega), Ea.out] at hv2
      have hds : ds.length * 8 ≤ 140737488355328 := by have := Hdl.out; have := Hi.out; omega
      have hsl := (own_free (S' := Fresh w wo) hown).slFresh hds
      have hcan : Pl.Canon ds := by
        refine Pl.canon_of_last fun hp he => ?_
        have h1 := Pl.val_take_succ B64 ds (ds.length - 1) (by omega)
        rw [show ds.length - 1 + 1 = ds.length by omega, List.take_length, he, Nat.mul_zero, Nat.add_zero] at h1
        have h2 := Pl.val_lt (hdd.take (ds.length - 1))
        rw [List.length_take, Nat.min_eq_left (by omega), ← h1, hv2, B64_pow16, ← Ea.out] at h2
        have hxp : 0 < xs.length := by
          rcases Nat.eq_zero_or_pos xs.length with h | h
          · have := Hi.out; have := Hdl.out; omega
          · exact h
        have h3 := hcn.ge (B := 65536) hxp
        have h4 : 65536 ^ (4 * (ds.length - 1)) ≤ 65536 ^ (xs.length - 1) := Nat.pow_le_pow_right (by omega) (by have := Hi.out; have := Hdl.out; omega)
        omega
      have Hv2 := hid hv2
      clear hv hv2
      go_wp2_with fail
      go_ret
      exact ⟨⟨_, rfl, ds, hsl, hcan, Hv2.out⟩, hB⟩

end Go.Proofs.Ytphbacggmhjmgaa

/- The references' numbers, third part: sums, differences, products. -/
namespace Go.Proofs.Ytphbacggmhjmgaa
open Go.RowKit

theorem val_take_getD (B : Nat) (xs : List Nat) (i : Nat) : Pl.val B (xs.take (i + 1)) = Pl.val B (xs.take i) + B ^ i * xs.getD i 0 := by
  rcases Nat.lt_or_ge i xs.length with h | h
  · rw [Pl.val_take_succ B xs i h, dec_at xs i h]
  · rw [List.take_of_length_le (by omega), List.take_of_length_le h, List.getD_eq_getElem?_getD, List.getElem?_eq_none h]; simp
theorem getD_lt {B : Nat} {xs : List Nat} (hd : Pl.Dig B xs) (hB : 0 < B) (i : Nat) : xs.getD i 0 < B := by
  rcases Nat.lt_or_ge i xs.length with h | h
  · rw [dec_at xs i h]; exact hd.at i h
  · rw [List.getD_eq_getElem?_getD, List.getElem?_eq_none h]; exact hB


set_option maxHeartbeats 4000000 in
set_option maxRecDepth 100000 in
theorem radd_calls {w : World} {S T : Nat → Prop} {m n : Nat} {va vb : Value} (ha : RefN.rep S w m [va]) (hb : RefN.rep T w n [vb]) (hm : Small m) (hn : Small n) :
    Calls Try.prog 42 #[va, vb] w fun e w' => (∃ u, e = .returned u ∧ RefN.rep (Fresh w w') w' (m + n) [u]) ∧ Below w.heap.size w w' := by
  obtain ⟨xs, hx, cx, ex⟩ := ha
  obtain ⟨ys, hy, cy, ey⟩ := hb
  have hdx := num_dig hx
  have hdy := num_dig hy
  have hlx := ref_len hdx cx ex hm
  have hly := ref_len hdy cy ey hn
  obtain ⟨A, c1, rfl, hc1, hm1⟩ := sl_open hx
  obtain ⟨A', c2, rfl, hc2, hm2⟩ := sl_open hy
  have Ex := hid ex
  have Ey := hid ey
  obtain ⟨M, hM⟩ : ∃ M, M = max xs.length ys.length := ⟨_, rfl⟩
  have hM1 : xs.length ≤ M := by omega
  have hM2 : ys.length ≤ M := by omega
  have hM3 : M ≤ 100000 := by omega
  clear ex ey hM hm hn cx cy
  go_enter Try.func42, Try.ntmps42
  go_wp2_with fail
  go_loopw [5, 6, 7] (fun ov cv iv wr => ∃ (i c : Nat) (ds : List Nat), iv = .int .i64 (i : Int) ∧ cv = .int .i64 (c : Int) ∧ (i ≤ M ∨ c = 0 ∧ i = M + 1) ∧ c ≤ 1 ∧ ds.length = i ∧ Pl.Dig 65536 ds ∧ Hid (Pl.val 65536 ds + 65536 ^ i * c = Pl.val 65536 (xs.take i) + Pl.val 65536 (ys.take i)) ∧ Own (Rep.num .i64 65536) w.heap.size 3 (fun _ => False) wr ds ov ∧ Below w.heap.size w wr) (fun _ _ iv _ => M + 2 - (intOf iv).toNat)
  case atStart => exact ⟨0, 0, [], rfl, rfl, .inl (by omega), by omega, rfl, Pl.Dig.nil _, hid (by simp [Pl.val]), Own.nil _ _ _ _ _, Below.refl _ _⟩
  case round =>
    obtain ⟨i, c, ds, rfl, rfl, hstop, hc, hdl, hdd, hinv, hown, hB⟩ := hrel
    obtain ⟨wo, rfl⟩ : ∃ wo : World, wo = wr := ⟨_, rfl⟩
    have hxo := (Rep.num .i64 65536).sl.below hx hB
    have hyo := (Rep.num .i64 65536).sl.below hy hB
    by_cases h1 : i < xs.length
    · obtain ⟨X, hX⟩ : ∃ X, X = xs.getD i 0 := ⟨_, rfl⟩
      obtain ⟨Y, hY⟩ : ∃ Y, Y = ys.getD i 0 := ⟨_, rfl⟩
      obtain ⟨D, hD⟩ : ∃ D, D = (X + Y + c) % 65536 := ⟨_, rfl⟩
      obtain ⟨C, hC⟩ : ∃ C, C = (X + Y + c) / 65536 := ⟨_, rfl⟩
      have hXb : X < 65536 := by rw [hX]; exact getD_lt hdx (by omega) i
      have hYb : Y < 65536 := by rw [hY]; exact getD_lt hdy (by omega) i
      have q1 : ((X : Int) + (Y : Int) + (c : Int)) % 65536 = (D : Int) := by omega
      have q2 : ((X : Int) + (Y : Int) + (c : Int)) / 65536 = (C : Int) := by omega
      have hDb : D < 65536 := by omega
      have hCb : C ≤ 1 := by omega
      have hinv2 : Hid (Pl.val 65536 (ds ++ [D]) + 65536 ^ (i + 1) * C = Pl.val 65536 (xs.take (i + 1)) + Pl.val 65536 (ys.take (i + 1))) := by
        show _ = _
        have h1 := hinv.out
        rw [Pl.val_snoc, hdl, val_take_getD, val_take_getD, ← hX, ← hY, Nat.pow_succ, Nat.mul_assoc]
        have h2 := congrArg (65536 ^ i * ·) (show D + 65536 * C = X + Y + c by omega)
        simp only [Nat.mul_add] at h2
        omega
      have hdl2 : Hid ((ds ++ [D]).length = i + 1) := by show _ = _; simp; omega
      have hds : (ds.length + 1) * 8 ≤ 140737488355328 := by omega
      have hdn := hdd.append (Pl.Dig.one hDb)
      have hstop2 : i + 1 ≤ M ∨ C = 0 ∧ i + 1 = M + 1 := by
        rcases Nat.lt_or_ge i M with h | h
        · exact .inl h
        · right
          have hX0 : X = 0 := by rw [hX, List.getD_eq_getElem?_getD, List.getElem?_eq_none (by omega)]; rfl
          have hY0 : Y = 0 := by rw [hY, List.getD_eq_getElem?_getD, List.getElem?_eq_none (by omega)]; rfl
          omega
      have HX := hid hX
      have HY := hid hY
      clear hX hY hD hC hinv hdl hstop
      go_wp2_with fail
      refine (at_calls hxo i (by omega)).mono ?_
      rintro e w2 ⟨rfl, rfl⟩
      rw [← HX.out]
      go_wp2_with fail
      refine (at_calls hyo i (by omega)).mono ?_
      rintro e w2 ⟨rfl, rfl⟩
      rw [← HY.out]
      go_wp2_with (at_builtin; refine wpList_push (B := 65536) rfl _ _ 35 3 rfl Try.underlying35 info3 wo D rfl _ ds rfl rfl hown hDb rfl hds hB ?_)
      intro v' w' hown' hb'
      go_wp2_with fail
      go_roundw
      case rel => exact ⟨i + 1, C, _, by go_num, by first | rfl | rw [q2], hstop2, hCb, hdl2.out, hdn, hinv2, hown', hb'⟩
      case measure => simp [intOf] <;> omega
      skip
    by_cases h2 : i < ys.length
    · obtain ⟨X, hX⟩ : ∃ X, X = xs.getD i 0 := ⟨_, rfl⟩
      obtain ⟨Y, hY⟩ : ∃ Y, Y = ys.getD i 0 := ⟨_, rfl⟩
      obtain ⟨D, hD⟩ : ∃ D, D = (X + Y + c) % 65536 := ⟨_, rfl⟩
      obtain ⟨C, hC⟩ : ∃ C, C = (X + Y + c) / 65536 := ⟨_, rfl⟩
      have hXb : X < 65536 := by rw [hX]; exact getD_lt hdx (by omega) i
      have hYb : Y < 65536 := by rw [hY]; exact getD_lt hdy (by omega) i
      have q1 : ((X : Int) + (Y : Int) + (c : Int)) % 65536 = (D : Int) := by omega
      have q2 : ((X : Int) + (Y : Int) + (c : Int)) / 65536 = (C : Int) := by omega
      have hDb : D < 65536 := by omega
      have hCb : C ≤ 1 := by omega
      have hinv2 : Hid (Pl.val 65536 (ds ++ [D]) + 65536 ^ (i + 1) * C = Pl.val 65536 (xs.take (i + 1)) + Pl.val 65536 (ys.take (i + 1))) := by
        show _ = _
        have h1 := hinv.out
        rw [Pl.val_snoc, hdl, val_take_getD, val_take_getD, ← hX, ← hY, Nat.pow_succ, Nat.mul_assoc]
        have h2 := congrArg (65536 ^ i * ·) (show D + 65536 * C = X + Y + c by omega)
        simp only [Nat.mul_add] at h2
        omega
      have hdl2 : Hid ((ds ++ [D]).length = i + 1) := by show _ = _; simp; omega
      have hds : (ds.length + 1) * 8 ≤ 140737488355328 := by omega
      have hdn := hdd.append (Pl.Dig.one hDb)
      have hstop2 : i + 1 ≤ M ∨ C = 0 ∧ i + 1 = M + 1 := by
        rcases Nat.lt_or_ge i M with h | h
        · exact .inl h
        · right
          have hX0 : X = 0 := by rw [hX, List.getD_eq_getElem?_getD, List.getElem?_eq_none (by omega)]; rfl
          have hY0 : Y = 0 := by rw [hY, List.getD_eq_getElem?_getD, List.getElem?_eq_none (by omega)]; rfl
          omega
      have HX := hid hX
      have HY := hid hY
      clear hX hY hD hC hinv hdl hstop
      go_wp2_with fail
      refine (at_calls hxo i (by omega)).mono ?_
      rintro e w2 ⟨rfl, rfl⟩
      rw [← HX.out]
      go_wp2_with fail
      refine (at_calls hyo i (by omega)).mono ?_
      rintro e w2 ⟨rfl, rfl⟩
      rw [← HY.out]
      go_wp2_with (at_builtin; refine wpList_push (B := 65536) rfl _ _ 35 3 rfl Try.underlying35 info3 wo D rfl _ ds rfl rfl hown hDb rfl hds hB ?_)
      intro v' w' hown' hb'
      go_wp2_with fail
      go_roundw
      case rel => exact ⟨i + 1, C, _, by go_num, by first | rfl | rw [q2], hstop2, hCb, hdl2.out, hdn, hinv2, hown', hb'⟩
      case measure => simp [intOf] <;> omega
      skip
    by_cases h3 : 0 < c
    · obtain ⟨X, hX⟩ : ∃ X, X = xs.getD i 0 := ⟨_, rfl⟩
      obtain ⟨Y, hY⟩ : ∃ Y, Y = ys.getD i 0 := ⟨_, rfl⟩
      obtain ⟨D, hD⟩ : ∃ D, D = (X + Y + c) % 65536 := ⟨_, rfl⟩
      obtain ⟨C, hC⟩ : ∃ C, C = (X + Y + c) / 65536 := ⟨_, rfl⟩
      have hXb : X < 65536 := by rw [hX]; exact getD_lt hdx (by omega) i
      have hYb : Y < 65536 := by rw [hY]; exact getD_lt hdy (by omega) i
      have q1 : ((X : Int) + (Y : Int) + (c : Int)) % 65536 = (D : Int) := by omega
      have q2 : ((X : Int) + (Y : Int) + (c : Int)) / 65536 = (C : Int) := by omega
      have hDb : D < 65536 := by omega
      have hCb : C ≤ 1 := by omega
      have hinv2 : Hid (Pl.val 65536 (ds ++ [D]) + 65536 ^ (i + 1) * C = Pl.val 65536 (xs.take (i + 1)) + Pl.val 65536 (ys.take (i + 1))) := by
        show _ = _
        have h1 := hinv.out
        rw [Pl.val_snoc, hdl, val_take_getD, val_take_getD, ← hX, ← hY, Nat.pow_succ, Nat.mul_assoc]
        have h2 := congrArg (65536 ^ i * ·) (show D + 65536 * C = X + Y + c by omega)
        simp only [Nat.mul_add] at h2
        omega
      have hdl2 : Hid ((ds ++ [D]).length = i + 1) := by show _ = _; simp; omega
      have hds : (ds.length + 1) * 8 ≤ 140737488355328 := by omega
      have hdn := hdd.append (Pl.Dig.one hDb)
      have hstop2 : i + 1 ≤ M ∨ C = 0 ∧ i + 1 = M + 1 := by
        rcases Nat.lt_or_ge i M with h | h
        · exact .inl h
        · right
          have hX0 : X = 0 := by rw [hX, List.getD_eq_getElem?_getD, List.getElem?_eq_none (by omega)]; rfl
          have hY0 : Y = 0 := by rw [hY, List.getD_eq_getElem?_getD, List.getElem?_eq_none (by omega)]; rfl
          omega
      have HX := hid hX
      have HY := hid hY
      clear hX hY hD hC hinv hdl hstop
      go_wp2_with fail
      refine (at_calls hxo i (by omega)).mono ?_
      rintro e w2 ⟨rfl, rfl⟩
      rw [← HX.out]
      go_wp2_with fail
      refine (at_calls hyo i (by omega)).mono ?_
      rintro e w2 ⟨rfl, rfl⟩
      rw [← HY.out]
      go_wp2_with (at_builtin; refine wpList_push (B := 65536) rfl _ _ 35 3 rfl Try.underlying35 info3 wo D rfl _ ds rfl rfl hown hDb rfl hds hB ?_)
      intro v' w' hown' hb'
      go_wp2_with fail
      go_roundw
      case rel => exact ⟨i + 1, C, _, by go_num, by first | rfl | rw [q2], hstop2, hCb, hdl2.out, hdn, hinv2, hown', hb'⟩
      case measure => simp [intOf] <;> omega
      skip
    · obtain rfl : c = 0 := by omega
      have hv := hinv.out
      rw [Nat.mul_zero, Nat.add_zero, List.take_of_length_le (by omega), List.take_of_length_le (by omega), Ex.out, Ey.out] at hv
      have Hv := hid hv
      have hsl := own_ref hown (by omega)
      clear hv hinv hdl hstop
      go_wp2_with fail
      refine (rtrim_calls hsl).mono ?_
      rintro e w' ⟨⟨u, rfl, hu⟩, rfl⟩
      go_wp2
      go_ret
      exact ⟨⟨_, rfl, _, hu, Pl.trim_canon _, by rw [Pl.trim_val]; exact Hv.out⟩, hB⟩


set_option maxHeartbeats 4000000 in
set_option maxRecDepth 100000 in
theorem rsub_calls {w : World} {S T : Nat → Prop} {m n : Nat} {va vb : Value} (ha : RefN.rep S w m [va]) (hb : RefN.rep T w n [vb]) (hm : Small m) (hnm : n ≤ m) :
    Calls Try.prog 28 #[va, vb] w fun e w' => (∃ u, e = .returned u ∧ RefN.rep (Fresh w w') w' (m - n) [u]) ∧ Below w.heap.size w w' := by
  obtain ⟨xs, hx, cx, ex⟩ := ha
  obtain ⟨ys, hy, cy, ey⟩ := hb
  have hdx := num_dig hx
  have hdy := num_dig hy
  have hlx := ref_len hdx cx ex hm
  have hly := Pl.canon_len (B := 65536) (by omega) hdx cy (show Pl.val 65536 ys ≤ Pl.val 65536 xs by rw [ex, ey]; exact hnm)
  obtain ⟨A, c1, rfl, hc1, hm1⟩ := sl_open hx
  obtain ⟨A', c2, rfl, hc2, hm2⟩ := sl_open hy
  have Ex := hid ex
  have Ey := hid ey
  clear ex ey hm cx cy
  go_enter Try.func28, Try.ntmps28
  go_wp2_with fail
  go_loopw [5, 6, 7] (fun ov cv iv wr => ∃ (i c : Nat) (ds : List Nat), iv = .int .i64 (i : Int) ∧ cv = .int .i64 (c : Int) ∧ i ≤ xs.length ∧ c ≤ 1 ∧ ds.length = i ∧ Pl.Dig 65536 ds ∧ Hid (Pl.val 65536 ds + Pl.val 65536 (ys.take i) = Pl.val 65536 (xs.take i) + 65536 ^ i * c) ∧ Own (Rep.num .i64 65536) w.heap.size 3 (fun _ => False) wr ds ov ∧ Below w.heap.size w wr) (fun _ _ iv _ => xs.length - (intOf iv).toNat)
  case atStart => exact ⟨0, 0, [], rfl, rfl, by omega, by omega, rfl, Pl.Dig.nil _, hid (by simp [Pl.val]), Own.nil _ _ _ _ _, Below.refl _ _⟩
  case round =>
    obtain ⟨i, c, ds, rfl, rfl, hi, hc, hdl, hdd, hinv, hown, hB⟩ := hrel
    obtain ⟨wo, rfl⟩ : ∃ wo : World, wo = wr := ⟨_, rfl⟩
    have hxo := (Rep.num .i64 65536).sl.below hx hB
    have hyo := (Rep.num .i64 65536).sl.below hy hB
    by_cases hlt : i < xs.length
    · obtain ⟨X, hX⟩ : ∃ X, X = xs.getD i 0 := ⟨_, rfl⟩
      obtain ⟨Y, hY⟩ : ∃ Y, Y = ys.getD i 0 := ⟨_, rfl⟩
      have hXb : X < 65536 := by rw [hX]; exact getD_lt hdx (by omega) i
      have hYb : Y < 65536 := by rw [hY]; exact getD_lt hdy (by omega) i
      by_cases hneg : X < Y + c
      · obtain ⟨D, hD⟩ : ∃ D, D = X + 65536 - Y - c := ⟨_, rfl⟩
        obtain ⟨C, hC⟩ : ∃ C, C = 1 := ⟨_, rfl⟩
        have q0 : (X : Int) - (Y : Int) - (c : Int) < 0 := by omega
        have q1 : (X : Int) - (Y : Int) - (c : Int) + 65536 = (D : Int) := by omega
        have hDb : D < 65536 := by omega
        have hCb : C ≤ 1 := by omega
        have HCC := hid hC
        have hinv2 : Hid (Pl.val 65536 (ds ++ [D]) + Pl.val 65536 (ys.take (i + 1)) = Pl.val 65536 (xs.take (i + 1)) + 65536 ^ (i + 1) * C) := by
          show _ = _
          have h1 := hinv.out
          rw [Pl.val_snoc, hdl, val_take_getD, val_take_getD, ← hX, ← hY, Nat.pow_succ, Nat.mul_assoc]
          have h2 := congrArg (65536 ^ i * ·) (show D + Y + c = X + 65536 * C by omega)
          simp only [Nat.mul_add] at h2
          omega
        have hdl2 : Hid ((ds ++ [D]).length = i + 1) := by show _ = _; simp; omega
        have hds : (ds.length + 1) * 8 ≤ 140737488355328 := by omega
        have hdn := hdd.append (Pl.Dig.one hDb)
        have HX := hid hX
        have HY := hid hY
        clear hX hY hD hC hinv hdl
        go_wp2_with fail
        refine (at_calls hxo i (by omega)).mono ?_
        rintro e w2 ⟨rfl, rfl⟩
        rw [← HX.out]
        go_wp2_with fail
        refine (at_calls hyo i (by omega)).mono ?_
        rintro e w2 ⟨rfl, rfl⟩
        rw [← HY.out]
        go_wp2_with (at_builtin; refine wpList_push (B := 65536) rfl _ _ 35 3 rfl Try.underlying35 info3 wo D rfl _ ds rfl rfl hown hDb rfl hds hB ?_)
        intro v' w' hown' hb'
        go_wp2_with fail
        go_roundw
        case rel => exact ⟨i + 1, C, _, by go_num, by rw [HCC.out]; rfl, by omega, hCb, hdl2.out, hdn, hinv2, hown', hb'⟩
        case measure => simp [intOf] <;> omega
        skip
      · obtain ⟨D, hD⟩ : ∃ D, D = X - Y - c := ⟨_, rfl⟩
        obtain ⟨C, hC⟩ : ∃ C, C = 0 := ⟨_, rfl⟩
        have q0 : ¬ (X : Int) - (Y : Int) - (c : Int) < 0 := by omega
        have q1 : (X : Int) - (Y : Int) - (c : Int) = (D : Int) := by omega
        have hDb : D < 65536 := by omega
        have hCb : C ≤ 1 := by omega
        have HCC := hid hC
        have hinv2 : Hid (Pl.val 65536 (ds ++ [D]) + Pl.val 65536 (ys.take (i + 1)) = Pl.val 65536 (xs.take (i + 1)) + 65536 ^ (i + 1) * C) := by
          show _ = _
          have h1 := hinv.out
          rw [Pl.val_snoc, hdl, val_take_getD, val_take_getD, ← hX, ← hY, Nat.pow_succ, Nat.mul_assoc]
          have h2 := congrArg (65536 ^ i * ·) (show D + Y + c = X + 65536 * C by omega)
          simp only [Nat.mul_add] at h2
          omega
        have hdl2 : Hid ((ds ++ [D]).length = i + 1) := by show _ = _; simp; omega
        have hds : (ds.length + 1) * 8 ≤ 140737488355328 := by omega
        have hdn := hdd.append (Pl.Dig.one hDb)
        have HX := hid hX
        have HY := hid hY
        clear hX hY hD hC hinv hdl
        go_wp2_with fail
        refine (at_calls hxo i (by omega)).mono ?_
        rintro e w2 ⟨rfl, rfl⟩
        rw [← HX.out]
        go_wp2_with fail
        refine (at_calls hyo i (by omega)).mono ?_
        rintro e w2 ⟨rfl, rfl⟩
        rw [← HY.out]
        go_wp2_with (at_builtin; refine wpList_push (B := 65536) rfl _ _ 35 3 rfl Try.underlying35 info3 wo D rfl _ ds rfl rfl hown hDb rfl hds hB ?_)
        intro v' w' hown' hb'
        go_wp2_with fail
        go_roundw
        case rel => exact ⟨i + 1, C, _, by go_num, by rw [HCC.out]; rfl, by omega, hCb, hdl2.out, hdn, hinv2, hown', hb'⟩
        case measure => simp [intOf] <;> omega
        skip
    · obtain rfl : i = xs.length := by omega
      have hv : Pl.val 65536 ds = m - n := by
        have h1 := hinv.out
        rw [List.take_of_length_le hly, List.take_length, Ex.out, Ey.out] at h1
        have h2 := Pl.val_lt hdd
        rw [hdl] at h2
        rcases Nat.eq_zero_or_pos c with h | h
        · subst h; omega
        · have : c = 1 := by omega
          subst this; omega
      have Hv := hid hv
      have hsl := own_ref hown (by omega)
      clear hv hinv hdl
      go_wp2_with fail
      refine (rtrim_calls hsl).mono ?_
      rintro e w' ⟨⟨u, rfl, hu⟩, rfl⟩
      go_wp2
      go_ret
      exact ⟨⟨_, rfl, _, hu, Pl.trim_canon _, by rw [Pl.trim_val]; exact Hv.out⟩, hB⟩

theorem run_make_num (m : Nat) (hm : m * 8 ≤ 281474976710656) (W : World) :
    (Instr.makeSlice 35 (.int .i64 (m : Int)) (.int .i64 (m : Int))).run Try.prog W = .ok (.slice (some ⟨W.heap.size, 0, none⟩) m m) (W.alloc (.cells (zerosOf (.int .i64 0) m) 3)) :=
  run_make_one 35 3 (.int .i64 0) 8 Try.underlying35 info3 rfl m (by omega) (by omega) W
theorem zero_set {xs : List Nat} {a i d : Nat} (h : ∀ t (ht : t < xs.length), a ≤ t → xs[t] = 0) (hi : i < a) : ∀ t (ht : t < (xs.set i d).length), a ≤ t → (xs.set i d)[t] = 0 := by
  intro t ht ha
  rw [List.getElem_set_ne (by omega)]
  exact h t (by simpa using ht) ha

theorem at_quiet {w : World} {S : Nat → Prop} {xs : List Nat} {v : Value} (h : IntS.rep S w xs [v]) (i Y : Nat) (hi : i ≤ 1000000000000) (hY : Hid (xs.getD i 0 = Y)) :
    Calls Try.prog 55 #[v, .int .i64 (i : Int)] w fun e w' => e = .returned (.int .i64 (Y : Int)) ∧ ∃ n, w' = w.drewN n := by
  rw [← hY.out]
  exact (at_calls h i hi).mono fun e w' ⟨h1, h2⟩ => ⟨h1, 0, h2.symm⟩
theorem still_below' {B : Nat} {w0 w w' : World} (h : Below B w0 w) (k : Still w w') : Below B w0 w' :=
  ⟨k.below.os.trans h.os, k.below.tape.trans h.tape, k.below.output.trans h.output, Nat.le_trans h.size k.below.size, fun b hb => by rw [k.heap]; exact h.block b hb⟩


set_option maxHeartbeats 4000000 in
set_option maxRecDepth 100000 in
theorem rmul_calls {w : World} {S T : Nat → Prop} {m n : Nat} {va vb : Value} (ha : RefN.rep S w m [va]) (hb : RefN.rep T w n [vb]) (hm : Small m) (hn : Small n) :
    Calls Try.prog 62 #[va, vb] w fun e w' => (∃ u, e = .returned u ∧ RefN.rep (Fresh w w') w' (m * n) [u]) ∧ Below w.heap.size w w' := by
  obtain ⟨xs, hx, cx, ex⟩ := ha
  obtain ⟨ys, hy, cy, ey⟩ := hb
  have hdx := num_dig hx
  have hdy := num_dig hy
  have hlx := ref_len hdx cx ex hm
  have hly := ref_len hdy cy ey hn
  obtain ⟨A, c1, rfl, hc1, hm1⟩ := sl_open hx
  obtain ⟨A', c2, rfl, hc2, hm2⟩ := sl_open hy
  have Ex := hid ex
  have Ey := hid ey
  have hmk : ∀ W : World, (Instr.makeSlice 35 (.int .i64 ((xs.length : Int) + (ys.length : Int) + 1)) (.int .i64 ((xs.length : Int) + (ys.length : Int) + 1))).run Try.prog W = .ok (.slice (some ⟨W.heap.size, 0, none⟩) (xs.length + ys.length + 1) (xs.length + ys.length + 1)) (W.alloc (.cells (zerosOf (.int .i64 0) (xs.length + ys.length + 1)) 3)) := fun W => run_make_num (xs.length + ys.length + 1) (by omega) W
  have hrow0 := Row.new w 3 (zerosOf (.int .i64 0) (xs.length + ys.length + 1))
  rw [zerosOf_num] at hrow0
  have hb0 := below_alloc (Below.refl w.heap.size w) (.cells (zerosOf (.int .i64 0) (xs.length + ys.length + 1)) 3)
  clear ex ey hm hn cx cy
  go_enter Try.func62, Try.ntmps62
  go_wp2_with fail
  go_loopw [6] (fun iv wr => ∃ (i : Nat) (os : List Nat), iv = .int .i64 (i : Int) ∧ i ≤ xs.length ∧ os.length = xs.length + ys.length + 1 ∧ Pl.Dig 65536 os ∧ Row wr w.heap.size 3 (nums .i64 os) ∧ Hid (Pl.val 65536 os = Pl.val 65536 (xs.take i) * n) ∧ Hid (∀ t (ht : t < os.length), i + ys.length ≤ t → os[t] = 0) ∧ Below w.heap.size w wr) (fun iv _ => xs.length - (intOf iv).toNat)
  case atStart => exact ⟨0, List.replicate (xs.length + ys.length + 1) 0, rfl, by omega, by simp, Pl.Dig.replicate (by omega) _, hrow0, hid (by rw [Pl.val_replicate]; simp [Pl.val]), hid (by intro t ht _; simp), hb0⟩
  case round =>
    clear hrow0 hb0 hmk
    obtain ⟨i, os, rfl, hi, hol, hod, hrow, hinv, hzero, hB⟩ := hrel
    obtain ⟨wo, rfl⟩ : ∃ wo : World, wo = wr := ⟨_, rfl⟩
    by_cases hlt : i < xs.length
    · go_wp2_with fail
      go_loopw [7, 8] (fun cv kv wr => ∃ (k c : Nat) (os : List Nat), kv = .int .i64 (k : Int) ∧ cv = .int .i64 (c : Int) ∧ (k ≤ ys.length ∨ c = 0 ∧ k = ys.length + 1) ∧ c < 65536 ∧ os.length = xs.length + ys.length + 1 ∧ Pl.Dig 65536 os ∧ Row wr w.heap.size 3 (nums .i64 os) ∧
        Hid (Pl.val 65536 os + 65536 ^ (i + k) * c = Pl.val 65536 (xs.take i) * n + 65536 ^ i * (xs[i] * Pl.val 65536 (ys.take k))) ∧ Hid (∀ t (ht : t < os.length), i + ys.length + (k - ys.length) ≤ t → os[t] = 0) ∧ Below w.heap.size w wr) (fun _ kv _ => ys.length + 2 - (intOf kv).toNat)
      case atStart => exact ⟨0, 0, os, rfl, rfl, .inl (by omega), by omega, hol, hod, hrow, hid (by simp [Pl.val, hinv.out]), hid (by simpa using hzero.out), hB⟩
      case round =>
        clear hrow hB hinv hzero hod hol os
        obtain ⟨k, c, os, rfl, rfl, hstop, hc, hol, hod, hrow, hinv, hzero, hB⟩ := hrel
        obtain ⟨wp, rfl⟩ : ∃ wp : World, wp = wr := ⟨_, rfl⟩
        by_cases h1 : k < ys.length
        · have hko : i + k < os.length := by omega
          have hcell1 := hrow.num (k := .i64) (i + k) hko
          have hf1 := hrow.frozen (i + k)
          obtain ⟨b1, o1, rfl, _, hxc, hxb⟩ := num_at ((Rep.num .i64 65536).sl.below hx hB) i hlt
          obtain ⟨X, hX⟩ : ∃ X, X = xs[i] := ⟨_, rfl⟩
          rw [← hX] at hxc hxb
          obtain ⟨Y, hY⟩ : ∃ Y, Y = ys.getD k 0 := ⟨_, rfl⟩
          have hYb : Y < 65536 := by rw [hY]; exact getD_lt hdy (by omega) k
          obtain ⟨O, hO⟩ : ∃ O, O = os[i + k] := ⟨_, rfl⟩
          have hOb : O < 65536 := by rw [hO]; exact hod.at (i + k) hko
          rw [← hO] at hcell1
          obtain ⟨Z, hZ⟩ : ∃ Z, Z = X * Y := ⟨_, rfl⟩
          have hZb : Z ≤ 65535 * 65535 := by rw [hZ]; exact Nat.mul_le_mul (by omega) (by omega)
          have q0 : (X : Int) * (Y : Int) = (Z : Int) := by rw [hZ]; push_cast; rfl
          obtain ⟨D, hD⟩ : ∃ D, D = (O + Z + c) % 65536 := ⟨_, rfl⟩
          obtain ⟨C, hC⟩ : ∃ C, C = (O + Z + c) / 65536 := ⟨_, rfl⟩
          obtain ⟨V, hV⟩ : ∃ V, V = O + Z + c := ⟨_, rfl⟩
          obtain ⟨U, hU⟩ : ∃ U, U = O + Z := ⟨_, rfl⟩
          have hVb : V ≤ 5000000000 := by omega
          have q1 : (V : Int) % 65536 = (D : Int) := by omega
          have q2 : (V : Int) / 65536 = (C : Int) := by omega
          have z1 : IntKind.i64.wrap ((i : Int) + (k : Int)) = ((i + k : Nat) : Int) := by rw [show (i : Int) + (k : Int) = ((i + k : Nat) : Int) by omega]; exact IntWalk.i64_in _ (by omega)
          have z2 : IntKind.i64.wrap ((X : Int) * (Y : Int)) = (Z : Int) := by rw [q0]; exact IntWalk.i64_in _ (by omega)
          have z3 : IntKind.i64.wrap ((O : Int) + (Z : Int)) = (U : Int) := by rw [hU]; push_cast; exact IntWalk.i64_in _ (by omega)
          have z4 : IntKind.i64.wrap ((U : Int) + (c : Int)) = (V : Int) := by rw [show (U : Int) + (c : Int) = (V : Int) by omega]; exact IntWalk.i64_in _ (by omega)
          have z5 : (0 : Int) ≤ ((i + k : Nat) : Int) := by omega
          have z6 : ((i + k : Nat) : Int) < (xs.length : Int) + (ys.length : Int) + 1 := by omega
          have z7 : (0 : Int) ≤ (i : Int) := by omega
          have z8 : (i : Int) < (xs.length : Int) := by omega
          have hDb : D < 65536 := by omega
          have hCb : C < 65536 := by omega
          have hinv2 : Hid (Pl.val 65536 (os.set (i + k) D) + 65536 ^ (i + (k + 1)) * C = Pl.val 65536 (xs.take i) * n + 65536 ^ i * (xs[i] * Pl.val 65536 (ys.take (k + 1)))) := by
            show _ = _
            have h1 := hinv.out
            have h2 := congrArg (65536 ^ (i + k) * ·) (show D + 65536 * C = O + X * Y + c by rw [← hZ]; omega)
            have h3 := Pl.val_set 65536 os (i + k) D hko
            rw [← hO] at h3
            rw [val_take_getD, ← hY, show i + (k + 1) = (i + k) + 1 by omega, Nat.pow_succ, Nat.mul_assoc]
            simp only [Nat.mul_add] at h2 ⊢
            have h5 : 65536 ^ i * (xs[i] * (65536 ^ k * Y)) = 65536 ^ (i + k) * (X * Y) := by rw [← hX, Nat.pow_add, Nat.mul_left_comm X, Nat.mul_assoc]
            omega
          have hrow2 := hrow.setNum (k := .i64) (i + k) D
          have hod2 := hod.set (i + k) hDb
          have hB2 := below_setCell hB (p := ⟨w.heap.size, i + k, none⟩) (Nat.le_refl _) (.int .i64 (D : Int))
          have hol2 : Hid ((os.set (i + k) D).length = xs.length + ys.length + 1) := by show _ = _; simpa using hol
          have hzero2 : Hid (∀ t (ht : t < (os.set (i + k) D).length), i + ys.length + (k + 1 - ys.length) ≤ t → (os.set (i + k) D)[t] = 0) := by
            have h0 := hzero.out
            rw [show k - ys.length = 0 by omega] at h0
            show ∀ t _, _
            rw [show k + 1 - ys.length = 0 by omega]
            exact zero_set h0 (by omega)
          have hstop2 : k + 1 ≤ ys.length ∨ C = 0 ∧ k + 1 = ys.length + 1 := .inl h1
          have HY := hid hY.symm
          have hyq := (Rep.num .i64 65536).sl.below hy hB
          clear hX hY hO hZ hD hC hinv hol hzero hV hU hrow2 hB2 q0
          obtain ⟨L, hL⟩ : ∃ L : Int, L = ((i + k : Nat) : Int) := ⟨_, rfl⟩
          obtain ⟨J, hJ⟩ : ∃ J : Nat, J = i + k := ⟨_, rfl⟩
          rw [← hJ] at hcell1 hf1 z1 z5 z6 hko hod2 hol2 hinv2 hzero2
          have HJ := hid hJ
          clear hJ hL L
          go_wp2_with fail
          go_quiet ((go_at_call 55; exact Calls.quiet_of (at_quiet (rep_drewN _ hyq _) k Y (by omega) HY)))
          obtain ⟨wq, hwq⟩ : ∃ wq, wq = wp.drewN nq := ⟨_, rfl⟩
          rw [← hwq]
          have hstq : Still wp wq := by rw [hwq]; exact Still.drewN _ _
          clear hwq z1 z2 z3 z4
          have hrowq := hstq.row hrow
          have hcq := hrowq.num (k := .i64) J hko
          have hfq := hrowq.frozen J
          have hrow2 := hrowq.setNum (k := .i64) J D
          have hB2 := below_setCell (still_below' hB hstq) (p := ⟨w.heap.size, J, none⟩) (Nat.le_refl _) (.int .i64 (D : Int))
          have z9 : (i : Int) + (k : Int) = (J : Int) := by have := HJ.out; omega
          clear hrow hB hcell1 hf1 hstq hrowq
          go_wp2_with fail
          go_roundw
          case rel => exact ⟨k + 1, C, os.set J D, by go_num, by first | rfl | rw [q2], hstop2, hCb, hol2.out, hod2, hrow2, hinv2, hzero2, hB2⟩
          case measure => simp [intOf] <;> omega
          skip
        by_cases h2 : 0 < c
        · have hk : k = ys.length := by omega
          have hko : i + k < os.length := by omega
          have hcell1 := hrow.num (k := .i64) (i + k) hko
          have hf1 := hrow.frozen (i + k)
          obtain ⟨b1, o1, rfl, _, hxc, hxb⟩ := num_at ((Rep.num .i64 65536).sl.below hx hB) i hlt
          obtain ⟨X, hX⟩ : ∃ X, X = xs[i] := ⟨_, rfl⟩
          rw [← hX] at hxc hxb
          obtain ⟨Y, hY⟩ : ∃ Y, Y = ys.getD k 0 := ⟨_, rfl⟩
          have hYb : Y < 65536 := by rw [hY]; exact getD_lt hdy (by omega) k
          obtain ⟨O, hO⟩ : ∃ O, O = os[i + k] := ⟨_, rfl⟩
          have hOb : O < 65536 := by rw [hO]; exact hod.at (i + k) hko
          rw [← hO] at hcell1
          obtain ⟨Z, hZ⟩ : ∃ Z, Z = X * Y := ⟨_, rfl⟩
          have hZb : Z ≤ 65535 * 65535 := by rw [hZ]; exact Nat.mul_le_mul (by omega) (by omega)
          have q0 : (X : Int) * (Y : Int) = (Z : Int) := by rw [hZ]; push_cast; rfl
          obtain ⟨D, hD⟩ : ∃ D, D = (O + Z + c) % 65536 := ⟨_, rfl⟩
          obtain ⟨C, hC⟩ : ∃ C, C = (O + Z + c) / 65536 := ⟨_, rfl⟩
          obtain ⟨V, hV⟩ : ∃ V, V = O + Z + c := ⟨_, rfl⟩
          obtain ⟨U, hU⟩ : ∃ U, U = O + Z := ⟨_, rfl⟩
          have hVb : V ≤ 5000000000 := by omega
          have q1 : (V : Int) % 65536 = (D : Int) := by omega
          have q2 : (V : Int) / 65536 = (C : Int) := by omega
          have z1 : IntKind.i64.wrap ((i : Int) + (k : Int)) = ((i + k : Nat) : Int) := by rw [show (i : Int) + (k : Int) = ((i + k : Nat) : Int) by omega]; exact IntWalk.i64_in _ (by omega)
          have z2 : IntKind.i64.wrap ((X : Int) * (Y : Int)) = (Z : Int) := by rw [q0]; exact IntWalk.i64_in _ (by omega)
          have z3 : IntKind.i64.wrap ((O : Int) + (Z : Int)) = (U : Int) := by rw [hU]; push_cast; exact IntWalk.i64_in _ (by omega)
          have z4 : IntKind.i64.wrap ((U : Int) + (c : Int)) = (V : Int) := by rw [show (U : Int) + (c : Int) = (V : Int) by omega]; exact IntWalk.i64_in _ (by omega)
          have z5 : (0 : Int) ≤ ((i + k : Nat) : Int) := by omega
          have z6 : ((i + k : Nat) : Int) < (xs.length : Int) + (ys.length : Int) + 1 := by omega
          have z7 : (0 : Int) ≤ (i : Int) := by omega
          have z8 : (i : Int) < (xs.length : Int) := by omega
          have hDb : D < 65536 := by omega
          have hCb : C < 65536 := by omega
          have hinv2 : Hid (Pl.val 65536 (os.set (i + k) D) + 65536 ^ (i + (k + 1)) * C = Pl.val 65536 (xs.take i) * n + 65536 ^ i * (xs[i] * Pl.val 65536 (ys.take (k + 1)))) := by
            show _ = _
            have h1 := hinv.out
            have h2 := congrArg (65536 ^ (i + k) * ·) (show D + 65536 * C = O + X * Y + c by rw [← hZ]; omega)
            have h3 := Pl.val_set 65536 os (i + k) D hko
            rw [← hO] at h3
            rw [val_take_getD, ← hY, show i + (k + 1) = (i + k) + 1 by omega, Nat.pow_succ, Nat.mul_assoc]
            simp only [Nat.mul_add] at h2 ⊢
            have h5 : 65536 ^ i * (xs[i] * (65536 ^ k * Y)) = 65536 ^ (i + k) * (X * Y) := by rw [← hX, Nat.pow_add, Nat.mul_left_comm X, Nat.mul_assoc]
            omega
          have hrow2 := hrow.setNum (k := .i64) (i + k) D
          have hod2 := hod.set (i + k) hDb
          have hB2 := below_setCell hB (p := ⟨w.heap.size, i + k, none⟩) (Nat.le_refl _) (.int .i64 (D : Int))
          have hol2 : Hid ((os.set (i + k) D).length = xs.length + ys.length + 1) := by show _ = _; simpa using hol
          have hzero2 : Hid (∀ t (ht : t < (os.set (i + k) D).length), i + ys.length + (k + 1 - ys.length) ≤ t → (os.set (i + k) D)[t] = 0) := by
            intro t ht ha
            rw [List.getElem_set_ne (by omega)]
            exact hzero.out t (by simpa using ht) (by omega)
          have hY0 : Y = 0 := by rw [hY, List.getD_eq_getElem?_getD, List.getElem?_eq_none (by omega)]; rfl
          have hO0 : O = 0 := by rw [hO]; exact hzero.out (i + k) hko (by omega)
          have hZ0 : Z = 0 := by rw [hZ, hY0, Nat.mul_zero]
          have hstop2 : k + 1 ≤ ys.length ∨ C = 0 ∧ k + 1 = ys.length + 1 := .inr (by omega)
          clear hY0 hO0 hZ0 hk
          have HY := hid hY.symm
          have hyq := (Rep.num .i64 65536).sl.below hy hB
          clear hX hY hO hZ hD hC hinv hol hzero hV hU hrow2 hB2 q0
          obtain ⟨L, hL⟩ : ∃ L : Int, L = ((i + k : Nat) : Int) := ⟨_, rfl⟩
          obtain ⟨J, hJ⟩ : ∃ J : Nat, J = i + k := ⟨_, rfl⟩
          rw [← hJ] at hcell1 hf1 z1 z5 z6 hko hod2 hol2 hinv2 hzero2
          have HJ := hid hJ
          clear hJ hL L
          go_wp2_with fail
          go_quiet ((go_at_call 55; exact Calls.quiet_of (at_quiet (rep_drewN _ hyq _) k Y (by omega) HY)))
          obtain ⟨wq, hwq⟩ : ∃ wq, wq = wp.drewN nq := ⟨_, rfl⟩
          rw [← hwq]
          have hstq : Still wp wq := by rw [hwq]; exact Still.drewN _ _
          clear hwq z1 z2 z3 z4
          have hrowq := hstq.row hrow
          have hcq := hrowq.num (k := .i64) J hko
          have hfq := hrowq.frozen J
          have hrow2 := hrowq.setNum (k := .i64) J D
          have hB2 := below_setCell (still_below' hB hstq) (p := ⟨w.heap.size, J, none⟩) (Nat.le_refl _) (.int .i64 (D : Int))
          have z9 : (i : Int) + (k : Int) = (J : Int) := by have := HJ.out; omega
          clear hrow hB hcell1 hf1 hstq hrowq
          go_wp2_with fail
          go_roundw
          case rel => exact ⟨k + 1, C, os.set J D, by go_num, by first | rfl | rw [q2], hstop2, hCb, hol2.out, hod2, hrow2, hinv2, hzero2, hB2⟩
          case measure => simp [intOf] <;> omega
          skip
        · obtain rfl : c = 0 := by omega
          have hinv2 : Hid (Pl.val 65536 os = Pl.val 65536 (xs.take (i + 1)) * n) := by
            show _ = _
            have h1 := hinv.out
            rw [Nat.mul_zero, Nat.add_zero, List.take_of_length_le (l := ys) (by omega), Ey.out] at h1
            rw [h1, Pl.val_take_succ 65536 xs i hlt, Nat.add_mul, Nat.mul_assoc]
          have hzero2 : Hid (∀ t (ht : t < os.length), i + 1 + ys.length ≤ t → os[t] = 0) := hid (fun t ht ha => hzero.out t ht (by omega))
          clear hinv hzero
          go_wp2_with fail
          go_roundw
          case rel => exact ⟨i + 1, os, by go_num, by omega, hol, hod, hrow, hinv2, hzero2, hB⟩
          case measure => simp [intOf] <;> omega
    · obtain rfl : i = xs.length := by omega
      have hv := hinv.out
      rw [List.take_length, Ex.out] at hv
      have Hv := hid hv
      have hsl := hrow.slNum (B := 65536) (S := Fresh w wo) ⟨Nat.le_refl _, hrow.lt⟩ hod (xs.length + ys.length + 1) (by omega) (by omega) (by omega)
      rw [hol] at hsl
      clear hv hinv hzero hol
      go_wp2_with fail
      refine (rtrim_calls hsl).mono ?_
      rintro e w' ⟨⟨u, rfl, hu⟩, rfl⟩
      go_wp2
      go_ret
      exact ⟨⟨_, rfl, _, hu, Pl.trim_canon _, by rw [Pl.trim_val]; exact Hv.out⟩, hB⟩

end Go.Proofs.Ytphbacggmhjmgaa
