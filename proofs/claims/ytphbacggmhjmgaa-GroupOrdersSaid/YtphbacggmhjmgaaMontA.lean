/- The layer mont, first part: what reckons modulo a number; rests, two at a time. -/
import Derived.Test.YtphbacggmhjmgaaNatI
namespace Go.Proofs.Ytphbacggmhjmgaa
open Go.RowKit

/-- A pointer to a struct that nobody writes. -/
def Rep.ptr {α : Type} (e : TypeId) (r : Rep α) : Rep α where
  sz := 1
  by_ := 8
  rep S w x cs := ∃ g ds, cs = [.pointer (some ⟨g, 0, none⟩)] ∧ S g ∧ g < w.heap.size ∧ Row w g e ds ∧ r.rep S w x ds
  len h := by obtain ⟨g, ds, rfl, _⟩ := h; rfl
  one h := by obtain ⟨g, ds, rfl, _⟩ := h; simp [Value.oneCell']
  mono {_ _ _ w' _ _} h hS hw := by
    obtain ⟨g, ds, rfl, h1, h2, h3, h4⟩ := h
    have h3' := h3.same h1 hw
    exact ⟨g, ds, rfl, hS g h1, h3'.lt, h3', r.mono h4 hS hw⟩
  live h := by
    obtain ⟨g, ds, rfl, h1, h2, h3, h4⟩ := h
    exact ⟨g, ds, rfl, ⟨h1, h2⟩, h2, h3, r.live h4⟩

/-- m, its digits, what is -1 of it, the square's rest -/
structure ModOk (m : Nat) (x : List Nat × Nat × Nat) : Prop where
  canon : Pl.Canon x.1
  val : Pl.val B64 x.1 = m
  odd : m % 2 = 1
  big : 3 ≤ m
  len : x.1.length ≤ 32
  inv : (x.2.1 * m + 1) % B64 = 0
  two : x.2.2 = B64 ^ x.1.length * B64 ^ x.1.length % m

/-- What reckons modulo m. -/
def ModP : Rep Nat := (Rep.ptr 76 (NatS.pair ((Rep.num .u64 B64).pair NumN))).ex ModOk

theorem mod_open {S : Nat → Prop} {w : World} {m : Nat} {v : Value} (h : ModP.rep S w m [v]) :
    ∃ (g : Nat) (A : Option Addr) (cap inv : Nat) (tv : Value) (ms : List Nat), v = .pointer (some ⟨g, 0, none⟩) ∧ S g ∧ w.cell? ⟨g, 0, none⟩ = some (.slice A ms.length cap) ∧ w.cell? ⟨g, 1, none⟩ = some (.int .u64 (inv : Int)) ∧ w.cell? ⟨g, 2, none⟩ = some tv ∧
      NatS.rep S w ms [.slice A ms.length cap] ∧ inv < B64 ∧ NumN.rep S w (B64 ^ ms.length * B64 ^ ms.length % m) [tv] ∧ ms.length ≤ cap ∧ cap ≤ 9223372036854775807 ∧ 0 < ms.length ∧ ModOk m (ms, inv, B64 ^ ms.length * B64 ^ ms.length % m) := by
  obtain ⟨⟨ms, inv, two⟩, ⟨g, ds, hv, hS, hg, hrow, a, b, rfl, ha, c, d, rfl, ⟨rfl, hc⟩, hd⟩, hok⟩ := h
  obtain ⟨A, cap, ys, rfl, hcap, hcm, hr⟩ := id ha
  obtain ⟨xs, ⟨A', cap', ys', rfl, hr'⟩, hxs⟩ := id hd
  have e := hok.two
  simp only at e ha hc hd hcap hrow
  subst e
  simp only [List.cons.injEq, and_true] at hv
  have hpos : 0 < ms.length := by
    rcases Nat.eq_zero_or_pos ms.length with h0 | h0
    · obtain rfl := List.eq_nil_of_length_eq_zero h0
      have := hok.val; have := hok.big
      simp [Pl.val] at *; omega
    · exact h0
  exact ⟨g, A, cap, inv, _, ms, hv, hS, hrow.cell 0 (by simp), hrow.cell 1 (by simp), hrow.cell 2 (by simp), ha, hc, hd, hcap, hcm.1, hpos, hok⟩

theorem step_calls (x y a c : Nat) (hx : x < B64) (hy : y < B64) (ha : a < B64) (hc : c < B64) (w : World) :
    Calls Try.prog 84 #[.int .u64 (x : Int), .int .u64 (y : Int), .int .u64 (a : Int), .int .u64 (c : Int)] w fun e w' => e = .returned (.tuple #[.int .u64 (stepLo x y a c : Int), .int .u64 (stepHi x y a c : Int)]) ∧ w = w' := by
  have h1 : ∀ W : World, (callFunc 65 #[.int .u64 (mulLo x y : Int), .int .u64 (a : Int), .int .u64 0]).run Try.prog W = .ok (.value (.tuple #[.int .u64 (addLo (mulLo x y) a 0 : Int), .int .u64 (addHi (mulLo x y) a 0 : Int)])) W := fun W => add64_run _ _ 0 (by omega) W
  have h2 : ∀ W : World, (callFunc 65 #[.int .u64 (addLo (mulLo x y) a 0 : Int), .int .u64 (c : Int), .int .u64 0]).run Try.prog W = .ok (.value (.tuple #[.int .u64 (addLo (addLo (mulLo x y) a 0) c 0 : Int), .int .u64 (addHi (addLo (mulLo x y) a 0) c 0 : Int)])) W := fun W => add64_run _ _ 0 (by omega) W
  have h3 : stepHi x y a c < B64 := stepHi_lt hx hy ha hc
  obtain ⟨H, hH⟩ : ∃ H, H = mulHi x y := ⟨_, rfl⟩
  obtain ⟨K1, hK1⟩ : ∃ H, H = addHi (mulLo x y) a 0 := ⟨_, rfl⟩
  obtain ⟨K2, hK2⟩ : ∃ H, H = addHi (addLo (mulLo x y) a 0) c 0 := ⟨_, rfl⟩
  obtain ⟨L2, hL2⟩ : ∃ H, H = addLo (addLo (mulLo x y) a 0) c 0 := ⟨_, rfl⟩
  have h3' : H + K1 + K2 < B64 := by rw [hH, hK1, hK2]; exact h3
  rw [← hK1] at h1
  rw [← hK2, ← hL2] at h2
  have q1 : IntKind.u64.wrap ((H : Int) + (K1 : Int)) = ((H + K1 : Nat) : Int) := u64_wrap_nat (by omega)
  have q2 : IntKind.u64.wrap (((H + K1 : Nat) : Int) + (K2 : Int)) = ((H + K1 + K2 : Nat) : Int) := u64_wrap_nat h3'
  have e1 : Hid (stepLo x y a c = L2) := by show _ = _; rw [hL2]; rfl
  have e2 : Hid (stepHi x y a c = H + K1 + K2) := by show _ = _; rw [hH, hK1, hK2]; rfl
  rw [e1.out, e2.out]
  have HH := hid hH
  clear hH hK1 hK2 hL2 h3
  go_enter Try.func84, Try.ntmps84
  go_wp2_with fail
  refine (mul64_calls x y hx hy _).mono ?_
  rintro e w' ⟨rfl, rfl⟩
  rw [← HH.out]
  go_wp2
  go_ret2
  have q3 : IntKind.u64.wrap ((H : Int) + (K1 : Int) + (K2 : Int)) = (H : Int) + (K1 : Int) + (K2 : Int) := by have := q2; push_cast at this; exact this
  exact ⟨by simp [q3], rfl⟩

theorem modulus_calls {w : World} {S : Nat → Prop} {m : Nat} {v : Value} (ha : NumN.rep S w m [v]) :
    Calls Try.prog 38 #[.agg #[v]] w fun e w' => (∃ u, e = .returned u ∧ NumN.rep (Fresh w w') w' m [u]) ∧ Below w.heap.size w w' := by
  obtain ⟨p, hP, cp, ea⟩ := ha
  obtain ⟨A, c1, rfl, hc1, hm1⟩ := sl_open hP
  have hb := below_alloc (Below.refl w.heap.size w) (.cells #[.slice A p.length c1] 74)
  have hP1 := (Rep.num .u64 B64).sl.below hP hb
  have Ea := hid ea
  clear ea
  go_enter Try.func38, Try.ntmps38
  go_wp2_with fail
  refine (clone_calls hP1).mono ?_
  rintro e w2 ⟨⟨u', rfl, hu'⟩, hB2⟩
  go_wp2
  go_ret
  exact ⟨⟨_, rfl, p, NatS.mono hu' (Fresh.mono hb.size (Nat.le_refl _)) (Same.refl _ _), cp, Ea.out⟩, below_trans hb hB2⟩

theorem mod_num {S : Nat → Prop} {w : World} {m : Nat} {A : Option Addr} {cap inv two : Nat} {ms : List Nat} (h : NatS.rep S w ms [.slice A ms.length cap]) (hok : ModOk m (ms, inv, two)) : NumN.rep S w m [.slice A ms.length cap] :=
  ⟨ms, h, hok.canon, hok.val⟩
theorem mod_lt {m : Nat} {x : List Nat × Nat × Nat} (hd : Pl.Dig B64 x.1) (h : ModOk m x) : m < B64 ^ 32 := by
  rw [← h.val]
  exact Nat.lt_of_lt_of_le (Pl.val_lt hd) (Nat.pow_le_pow_right B64_pos h.len)
theorem B32_64 : B64 ^ 32 ≤ B64 ^ 64 := Nat.pow_le_pow_right B64_pos (by omega)

/-- what a rest of a number, or that it is too long, answers -/
def ReduceE (m a : Nat) : Except Nat Nat := if B64 ^ 64 ≤ a then .error 2 else .ok (a % m)

theorem reduce_calls {w : World} {S T : Nat → Prop} {m n : Nat} {v va : Value} (hM : ModP.rep S w m [v]) (ha : RawN.rep T w n [va]) :
    Calls Try.prog 24 #[v, va] w fun e w' => NumE (Fresh w w') w' e (ReduceE m n) ∧ Below w.heap.size w w' := by
  obtain ⟨g, A, cap, inv, tv, ms, rfl, hS, c0, c1, c2, hms, hinv, htv, hcap, hcm, hpos, hok⟩ := mod_open hM
  have hlt := mod_lt (num_dig hms) hok
  have hle := B32_64
  have hm0 := hok.big
  have hmn := num_raw (NumN.mono (mod_num hms hok) (S' := fun b => S b ∨ T b) (fun b hb => .inl hb) (Same.refl _ _))
  have ha' := RawN.mono ha (S' := fun b => S b ∨ T b) (fun b hb => .inr hb) (Same.refl _ _)
  by_cases hl : B64 ^ 64 ≤ n
  · rw [show ReduceE m n = .error 2 by unfold ReduceE; rw [if_pos hl]]
    go_enter Try.func24, Try.ntmps24
    go_wp2_with fail
    refine (div_calls ha' hmn).mono ?_
    rintro e w' ⟨h, hw⟩
    unfold DivPost at h
    rw [if_pos (.inl hl)] at h
    subst h
    go_wp2
    go_ret2
    exact ⟨rfl, hw⟩
  · rw [show ReduceE m n = .ok (n % m) by unfold ReduceE; rw [if_neg hl]]
    go_enter Try.func24, Try.ntmps24
    go_wp2_with fail
    refine (div_ok ha' hmn (by omega) (by omega) (by omega)).mono ?_
    rintro e w' ⟨⟨q, r, rfl, hq, hr⟩, hw⟩
    go_wp2
    go_ret2
    exact ⟨⟨_, rfl, hr⟩, hw⟩

theorem long_iff {w : World} {S : Nat → Prop} {n : Nat} {p : List Nat} {v : Value} (hp : NatS.rep S w p [v]) (cp : Pl.Canon p) (ea : Pl.val B64 p = n) : p.length ≤ 64 ↔ n < B64 ^ 64 := by
  rw [← ea]; exact Pl.canon_len_le B64_gt (num_dig hp) cp

theorem pair_ok {w : World} {S T : Nat → Prop} {m a b : Nat} {v va vb : Value} (hM : ModP.rep S w m [v]) (ha : RawN.rep T w a [va]) (hb : RawN.rep T w b [vb]) (hal : a < B64 ^ 64) (hbl : b < B64 ^ 64) :
    Calls Try.prog 56 #[v, va, vb] w fun e w' => (∃ x y, e = .returned (.tuple #[x, y, .nilIface]) ∧ NumN.rep (Fresh w w') w' (a % m) [x] ∧ NumN.rep (Fresh w w') w' (b % m) [y]) ∧ Below w.heap.size w w' := by
  go_enter Try.func56, Try.ntmps56
  go_wp2_with fail
  refine (norm_calls ha).mono ?_
  rintro e w1 ⟨⟨u, rfl, hu⟩, hB1⟩
  obtain ⟨p, hp, cp, ep⟩ := hu
  have lp := (long_iff hp cp ep).2 hal
  obtain ⟨A, c1, rfl, hc1, hm1⟩ := sl_open hp
  clear hp cp ep
  go_wp2_with fail
  refine (norm_calls (RawN.below hb hB1)).mono ?_
  rintro e w2 ⟨⟨u, rfl, hu⟩, hB2⟩
  obtain ⟨q, hq, cq, eq⟩ := hu
  have lq := (long_iff hq cq eq).2 hbl
  obtain ⟨A', c2, rfl, hc2, hm2⟩ := sl_open hq
  clear hq cq eq
  have hB2' := below_trans hB1 hB2
  go_wp2_with fail
  refine (reduce_calls (ModP.below hM hB2') (RawN.below ha hB2')).mono ?_
  rintro e w3 ⟨he, hB3⟩
  unfold ReduceE at he
  rw [if_neg (by omega)] at he
  obtain ⟨x, rfl, hx⟩ := he
  rw [errV_zero]
  have hB3' := below_trans hB2' hB3
  go_wp2_with fail
  refine (reduce_calls (ModP.below hM hB3') (RawN.below hb hB3')).mono ?_
  rintro e w4 ⟨he, hB4⟩
  unfold ReduceE at he
  rw [if_neg (by omega)] at he
  obtain ⟨y, rfl, hy⟩ := he
  rw [errV_zero]
  go_wp2
  go_ret3
  have hs2 := hB2'.size
  have hs3 := hB3.size
  have hs4 := hB4.size
  exact ⟨⟨_, _, rfl, NumN.mono (NumN.below hx hB4) (Fresh.mono hs2 hs4) (Same.refl _ _), NumN.mono hy (Fresh.mono hB3'.size (Nat.le_refl _)) (Same.refl _ _)⟩, below_trans hB3' hB4⟩

theorem pair_long {w : World} {S T : Nat → Prop} {m a b : Nat} {v va vb : Value} (_hM : ModP.rep S w m [v]) (ha : RawN.rep T w a [va]) (hb : RawN.rep T w b [vb]) (hl : B64 ^ 64 ≤ a ∨ B64 ^ 64 ≤ b) :
    Calls Try.prog 56 #[v, va, vb] w fun e w' => e = .returned (.tuple #[.slice none 0 0, .slice none 0 0, .iface 38 (.int .i64 2)]) ∧ Below w.heap.size w w' := by
  go_enter Try.func56, Try.ntmps56
  go_wp2_with fail
  refine (norm_calls ha).mono ?_
  rintro e w1 ⟨⟨u, rfl, hu⟩, hB1⟩
  obtain ⟨p, hp, cp, ep⟩ := hu
  have lp := long_iff hp cp ep
  obtain ⟨A, c1, rfl, hc1, hm1⟩ := sl_open hp
  clear hp cp ep
  by_cases hal : a < B64 ^ 64
  · have lp := lp.2 hal
    go_wp2_with fail
    refine (norm_calls (RawN.below hb hB1)).mono ?_
    rintro e w2 ⟨⟨u, rfl, hu⟩, hB2⟩
    obtain ⟨q, hq, cq, eq⟩ := hu
    have lq := long_iff hq cq eq
    have lq : ¬ q.length ≤ 64 := by rw [lq]; omega
    obtain ⟨A', c2, rfl, hc2, hm2⟩ := sl_open hq
    clear hq cq eq
    go_wp2
    go_ret3
    exact ⟨rfl, below_trans hB1 hB2⟩
  · have lp : ¬ p.length ≤ 64 := by rw [lp]; exact hal
    go_wp2
    go_ret3
    exact ⟨rfl, hB1⟩

end Go.Proofs.Ytphbacggmhjmgaa
