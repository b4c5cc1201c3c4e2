/- The references' numbers, first part: digits of 16 bits; what is appended; noughts at the end; how two stand to one another. -/
import Derived.Test.YtphbacggmhjmgaaNatI
namespace Go.Proofs.Ytphbacggmhjmgaa
open Go.RowKit

abbrev IntS : Rep (List Nat) := (Rep.num .i64 65536).sl
/-- a number of the references -/
def RefN : Rep Nat := IntS.ex fun n xs => Pl.Canon xs ∧ Pl.val 65536 xs = n

theorem info3 : (Try.prog.info? 3).map (fun i => (i.zero, i.size, i.bytes)) = some (some (.int .i64 0), 1, 8) := by kernel_rfl

/-- no number here is longer -/
structure Small (n : Nat) : Prop where
  lt : n < 65536 ^ 100000
theorem ref_len {xs : List Nat} (hd : Pl.Dig 65536 xs) (hc : Pl.Canon xs) {n : Nat} (hv : Pl.val 65536 xs = n) (h : Small n) : xs.length ≤ 100000 := (Pl.canon_len_le (B := 65536) (by omega) hd hc).2 (by rw [hv]; exact h.lt)
theorem Small.le {a b : Nat} (h : Small b) (hab : a ≤ b) : Small a := ⟨Nat.lt_of_le_of_lt hab h.lt⟩
theorem pow_lim (b n k l : Nat) (hb : 0 < b) (h : n < b ^ k) (hk : k ≤ l) : n < b ^ l := Nat.lt_of_lt_of_le h (Nat.pow_le_pow_right hb hk)
theorem two_pow (s b : Nat) (hb : b = 2 ^ s) (n k l : Nat) (hl : l = s * k) (h : n < b ^ k) : n < 2 ^ l := by subst hl hb; rw [Nat.pow_mul]; exact h
theorem small_limbs {n k : Nat} (h : n < B64 ^ k) (hk : k ≤ 25000) : Small n := by
  have e : B64 ^ k = 65536 ^ (4 * k) := by rw [show B64 = 65536 ^ 4 by decide, ← Nat.pow_mul]
  rw [e] at h
  exact ⟨pow_lim 65536 n (4 * k) 100000 (by omega) h (by omega)⟩
theorem RefN.zero (S : Nat → Prop) (w : World) : RefN.rep S w 0 [.slice none 0 0] := ⟨[], sl_nil _ S w, Pl.canon_nil, rfl⟩

section
variable {P : Program} {ops : Array Oper} {rest : List Oper} {o : Oper} {a : Act} {Q : Exit → Act → World → Prop} {w : World}

theorem own_free {k : IntKind} {B base : Nat} {e : TypeId} {S S' : Nat → Prop} {w : World} {xs : List Nat} {v : Value} (h : Own (Rep.num k B) base e S w xs v) : Own (Rep.num k B) base e S' w xs v := by
  obtain ⟨cs, h1, h2⟩ := h
  exact ⟨cs, h1, repL_num.2 (repL_num.1 h2)⟩

/-- 'append(v, d)': a number more -/
theorem wpList_push {k : IntKind} {B : Nat} (hgd : o.guard = none) (s x : Operand) (t e : TypeId) (ho : o.op = .call { callee := .builtin .append, args := #[s, x], argTypes := #[t, t] }) (ht : P.underlying t = some (.slice e))
    (hinfo : (P.info? e).map (fun i => (i.zero, i.size, i.bytes)) = some (some (.int k 0), 1, 8)) (W : World) (d : Nat) (hw : w = W.alloc (.cells #[.int k (d : Int)] e)) (v : Value) (xs : List Nat)
    (hs : a.eval s = v) (hx : a.eval x = .slice (some ⟨W.heap.size, 0, none⟩) 1 1) {w0 : World} (hown : Own (Rep.num k B) w0.heap.size e (fun _ => False) W xs v) (hd : d < B) (hk : (Rep.num k B).by_ = 8) (hlen : (xs.length + 1) * 8 ≤ 140737488355328)
    (hb : Below w0.heap.size w0 W)
    (h : ∀ v' w', Own (Rep.num k B) w0.heap.size e (fun _ => False) w' (xs ++ [d]) v' → Below w0.heap.size w0 w' → wpList P ops Q rest (a.put o.dst v') w') : wpList P ops Q (o :: rest) a w := by
  subst hw
  have hba := below_alloc (Below.refl W.heap.size W) (.cells #[.int k (d : Int)] e)
  have hu : (Rep.num k B).sl.rep (fun b => b = W.heap.size) (W.alloc (.cells #[.int k (d : Int)] e)) [d] [.slice (some ⟨W.heap.size, 0, none⟩) 1 1] :=
    Row.sl (r := Rep.num k B) (S := fun b => b = W.heap.size) (xs := [d]) (Row.new W e #[.int k (d : Int)]) rfl (RepL.single ⟨rfl, hd⟩) 1 (by simp) (by omega) (by rw [hk]; simp)
  have hown' := own_free (S' := fun b => b = W.heap.size) (hown.below hba (fun b hb => hb.elim))
  refine wpList_append_rep hgd s x t e (.int k 0) 8 ho ht hinfo rfl (by show 0 < 1; omega) (by omega) w0.heap.size v xs _ [d] hs hx hown' hu (by simpa using hlen) (by have := hb.size; simp; omega) ?_ ?_
  · rintro b rfl
    refine ⟨by simp, fun e => ?_⟩
    have := (hown.blk _ e.symm).2
    omega
  · intro v' w' h1 h2 _
    exact h v' w' (own_free h1) ((below_trans hb hba).grown h2 (by have := hb.size; simp; omega) (fun k' hk' => (hown.blk k' hk').1))
end

set_option maxHeartbeats 400000 in
theorem rtrim_walk (w : World) (S : Nat → Prop) (A : Option Addr) (xs : List Nat) (cap : Nat) (h : IntS.rep S w xs [.slice A xs.length cap]) :
    Calls Try.prog 47 #[.slice A xs.length cap] w fun e w' => e = .returned (.slice A (Pl.trimN xs xs.length) cap) ∧ w = w' := by
  obtain ⟨_, hc, hm⟩ := sl_cap h
  go_enter Try.func47, Try.ntmps47
  go_wp2
  go_loop [3] (fun n => ∃ k : Nat, k ≤ xs.length ∧ n = .int .i64 k ∧ Pl.trimN xs xs.length = Pl.trimN xs k) (fun n => (intOf n).toNat)
  case atStart => exact ⟨_, Nat.le_refl _, rfl, rfl⟩
  case round =>
    obtain ⟨k, hk, rfl, ht⟩ := hrel
    have Ht := hid ht; clear ht
    cases k with
    | zero =>
      go_wp2
      go_ret
      exact ⟨by rw [Ht.out]; rfl, rfl⟩
    | succ k =>
      obtain ⟨b, o, rfl, _, hcell, _⟩ := num_at h k (by omega)
      have Hd := hid (dec_at xs k (by omega))
      by_cases hz : xs[k] = 0
      · have hz' : ((xs[k] : Int) == 0) = true := by simp [hz]
        have Hz := hid hz; clear hz
        go_wp2
        go_round
        case rel => exact ⟨k, by omega, rfl, by rw [Ht.out, Pl.trimN, Hd.out, if_pos Hz.out]⟩
        case measure => simp [intOf]
      · have hz' : ((xs[k] : Int) == 0) = false := by simp [hz]
        go_wp2
        go_ret
        exact ⟨by rw [Ht.out, Pl.trimN, Hd.out, if_neg hz]; rfl, rfl⟩

theorem rtrim_calls {w : World} {S : Nat → Prop} {xs : List Nat} {v : Value} (h : IntS.rep S w xs [v]) :
    Calls Try.prog 47 #[v] w fun e w' => (∃ u, e = .returned u ∧ IntS.rep S w (Pl.trim xs) [u]) ∧ w = w' := by
  obtain ⟨A, cap, rfl, hc, hm⟩ := sl_open h
  refine (rtrim_walk w S A xs cap h).mono fun e w' ⟨he, hw⟩ => ⟨⟨_, he, ?_⟩, hw⟩
  have hle := Pl.trimN_le xs xs.length
  have := sl_cut h 0 (Pl.trimN xs xs.length) (Nat.zero_le _) hle A (fun _ b o e => by simpa using e) (Pl.trimN xs xs.length) cap rfl (by omega) hm
  simpa [Pl.trim] using this

set_option maxHeartbeats 400000 in
theorem limbs_calls {w : World} {S : Nat → Prop} {n : Nat} {v : Value} (hr : RawN.rep S w n [v]) :
    Calls Try.prog 61 #[v] w fun e w' => (∃ l : Nat, e = .returned (.int .i64 (l : Int)) ∧ ∀ k, l ≤ k ↔ n < B64 ^ k) ∧ w = w' := by
  obtain ⟨xs, h, ea⟩ := hr
  have hd := num_dig h
  obtain ⟨A, cap, rfl, hc, hm⟩ := sl_open h
  have hfin : ∀ k, Pl.trimN xs xs.length ≤ k ↔ n < B64 ^ k := by
    intro k
    rw [← Pl.trim_length, Pl.canon_len_le B64_gt (Pl.trim_dig hd) (Pl.trim_canon xs), Pl.trim_val, ea]
  have Hfin := hid hfin
  have Ea := hid ea
  clear hfin ea
  go_enter Try.func61, Try.ntmps61
  go_wp2
  go_loop [3] (fun n => ∃ k : Nat, k ≤ xs.length ∧ n = .int .i64 k ∧ Pl.trimN xs xs.length = Pl.trimN xs k) (fun n => (intOf n).toNat)
  case atStart => exact ⟨_, Nat.le_refl _, rfl, rfl⟩
  case round =>
    obtain ⟨k, hk, rfl, ht⟩ := hrel
    have Ht := hid ht; clear ht
    cases k with
    | zero =>
      go_wp2
      go_ret
      exact ⟨⟨Pl.trimN xs xs.length, by rw [Ht.out]; rfl, Hfin.out⟩, rfl⟩
    | succ k =>
      obtain ⟨b, o, rfl, _, hcell, _⟩ := num_at h k (by omega)
      have Hd := hid (dec_at xs k (by omega))
      by_cases hz : xs[k] = 0
      · have hz' : ((xs[k] : Int) == 0) = true := by simp [hz]
        have Hz := hid hz; clear hz
        go_wp2
        go_round
        case rel => exact ⟨k, by omega, rfl, by rw [Ht.out, Pl.trimN, Hd.out, if_pos Hz.out]⟩
        case measure => simp [intOf]
      · have hz' : ((xs[k] : Int) == 0) = false := by simp [hz]
        go_wp2
        go_ret
        exact ⟨⟨Pl.trimN xs xs.length, by rw [Ht.out, Pl.trimN, Hd.out, if_neg hz]; rfl, Hfin.out⟩, rfl⟩

set_option maxHeartbeats 400000 in
theorem rsame_calls {w : World} {S T : Nat → Prop} {xs ys : List Nat} {va vb : Value} (ha : NatS.rep S w xs [va]) (hb : NatS.rep T w ys [vb]) :
    Calls Try.prog 11 #[va, vb] w fun e w' => e = .returned (.bool (decide (xs = ys))) ∧ Still w w' := by
  obtain ⟨A, c1, rfl, hc1, hm1⟩ := sl_open ha
  obtain ⟨A', c2, rfl, hc2, hm2⟩ := sl_open hb
  go_enter Try.func11, Try.ntmps11
  by_cases hl : xs.length = ys.length
  · have h1 : ((xs.length : Int) == (ys.length : Int)) = true := by simp; omega
    have Hl := hid hl
    clear hl
    go_wp2
    go_loopw [5] (fun i wr => ∃ k : Nat, k ≤ xs.length ∧ i = .int .i64 (k : Int) ∧ Hid (xs.take k = ys.take k) ∧ Still w wr) (fun i _ => xs.length - (intOf i).toNat)
    case atStart => exact ⟨0, by omega, rfl, hid (by simp), Still.refl w⟩
    case round =>
      obtain ⟨k, hk, rfl, ht, hst⟩ := hrel
      by_cases hlt : k < xs.length
      · have hlt2 : k < ys.length := by rw [← Hl.out]; exact hlt
        obtain ⟨b, o, rfl, _, hcell, _⟩ := num_at (hst.rep _ ha) k hlt
        obtain ⟨b', o', rfl, _, hcell', _⟩ := num_at (hst.rep _ hb) k hlt2
        have hi0 : (0 : Int) ≤ (k : Int) := by omega
        have hi1 : (k : Int) < (xs.length : Int) := by omega
        have hi2 : (k : Int) < (ys.length : Int) := by omega
        by_cases he : xs[k] = ys[k]
        · have hne : ((xs[k] : Int) != (ys[k] : Int)) = false := by simp [he]
          have hne2 : ((xs[k] : Int) == (ys[k] : Int)) = true := by simp [he]
          have ht2 : Hid (xs.take (k + 1) = ys.take (k + 1)) := by
            show _ = _
            rw [List.take_succ_eq_append_getElem hlt, List.take_succ_eq_append_getElem hlt2, ht.out, he]
          clear he ht
          go_wp2_with fail
          go_quiet (fail)
          obtain ⟨w2, hw2⟩ : ∃ w2, w2 = wr.drewN nq := ⟨_, rfl⟩
          rw [← hw2]
          have hst2 : Still w w2 := by rw [hw2]; exact hst.trans (Still.drewN _ _)
          clear hw2
          go_wp2
          go_roundw
          case rel => exact ⟨k + 1, by omega, by go_num, ht2, hst2⟩
          case measure => simp [intOf]; omega
        · have hne : ((xs[k] : Int) != (ys[k] : Int)) = true := by simp; omega
          have hne2 : ((xs[k] : Int) == (ys[k] : Int)) = false := by simp; omega
          have hfin : Hid (decide (xs = ys) = false) := by
            show _ = _
            rw [decide_eq_false_iff_not]
            intro h; subst h; exact he rfl
          clear he ht
          go_wp2_with fail
          go_quiet (fail)
          obtain ⟨w2, hw2⟩ : ∃ w2, w2 = wr.drewN nq := ⟨_, rfl⟩
          rw [← hw2]
          have hst2 : Still w w2 := by rw [hw2]; exact hst.trans (Still.drewN _ _)
          clear hw2
          go_wp2
          go_ret
          exact ⟨by rw [hfin.out]; rfl, hst2⟩
      · have hfin : Hid (decide (xs = ys) = true) := by
          show _ = _
          rw [decide_eq_true_eq]
          have := ht.out
          rwa [List.take_of_length_le (by omega), List.take_of_length_le (by rw [← Hl.out]; omega)] at this
        clear ht
        go_wp2
        go_ret
        exact ⟨by rw [hfin.out]; rfl, hst⟩
  · have h1 : ((xs.length : Int) == (ys.length : Int)) = false := by simp; omega
    have hfin : Hid (decide (xs = ys) = false) := by
      show _ = _
      rw [decide_eq_false_iff_not]
      intro h; subst h; exact hl rfl
    clear hl
    go_wp2
    go_ret
    exact ⟨by rw [hfin.out]; rfl, Still.refl w⟩

theorem at_calls {w : World} {S : Nat → Prop} {xs : List Nat} {v : Value} (h : IntS.rep S w xs [v]) (i : Nat) (_hi : i ≤ 1000000000000) :
    Calls Try.prog 55 #[v, .int .i64 (i : Int)] w fun e w' => e = .returned (.int .i64 ((xs.getD i 0 : Nat) : Int)) ∧ w = w' := by
  obtain ⟨A, cap, rfl, hc, hm⟩ := sl_open h
  go_enter Try.func55, Try.ntmps55
  by_cases hlt : i < xs.length
  · obtain ⟨b, o, rfl, _, hcell, _⟩ := num_at h i hlt
    have hd := hid (dec_at xs i hlt)
    go_wp2
    go_ret
    exact ⟨by rw [hd.out]; rfl, rfl⟩
  · have hd : Hid (xs.getD i 0 = 0) := by show _ = _; rw [List.getD_eq_getElem?_getD, List.getElem?_eq_none (by omega)]; rfl
    go_wp2
    go_ret
    exact ⟨by rw [hd.out]; rfl, rfl⟩

end Go.Proofs.Ytphbacggmhjmgaa
