/- The layer mont, first part: what reckons modulo a number; products, sums, differences. -/
import Derived.Test.YtphbacggmhjmgaaNatR
import Derived.Test.YtphbacggmhjmgaaPlA
import Derived.Deep.RegionLaw
import Derived.BigRegion
import Derived.Deep.DrawnRows
import Derived.Outline
import Derived.Deep.RegionHeld3

/- The layer mont, first part: what reckons modulo a number; rests, two at a time. -/
namespace Go.Proofs.Ytphbacggmhjmgaa
open Go.RowKit

/-- A pointer to a struct that nobody writes. -/
def Rep.ptr {α : Type} (e : TypeId) (r : Rep α) : Rep α where
  sz := 1
  by_ := 8
  rep S w x cs := ∃ g ds, cs = [.pointer (some ⟨g, 0, none⟩)] ∧ S g ∧ g < w.heap.size ∧ Row w g e ds ∧ r.rep S w x ds
  len h := by obtain ⟨g, ds, rfl, _⟩ := h; rfl
  one h := by obtain ⟨g, ds, rfl, _⟩ := h; simp [Value.oneCell']
  mono {_ _ _ w' _ _} h hS hw := by
    obtain ⟨g, ds, rfl, h1, h2, h3, h4⟩ := h
    have h3' := h3.same h1 hw
    exact ⟨g, ds, rfl, hS g h1, h3'.lt, h3', r.mono h4 hS hw⟩
  live h := by
    obtain ⟨g, ds, rfl, h1, h2, h3, h4⟩ := h
    exact ⟨g, ds, rfl, ⟨h1, h2⟩, h2, h3, r.live h4⟩

/-- m, its digits, what is -1 of it, the square's rest -/
structure ModOk (m : Nat) (x : List Nat × Nat × Nat) : Prop where
  canon : Pl.Canon x.1
  val : Pl.val B64 x.1 = m
  odd : m % 2 = 1
  big : 3 ≤ m
  len : x.1.length ≤ 32
  inv : (x.2.1 * m + 1) % B64 = 0
  two : x.2.2 = B64 ^ x.1.length * B64 ^ x.1.length % m

/-- What reckons modulo m. -/
def ModP : Rep Nat := (Rep.ptr 76 (NatS.pair ((Rep.num .u64 B64).pair NumN))).ex ModOk

theorem mod_open {S : Nat → Prop} {w : World} {m : Nat} {v : Value} (h : ModP.rep S w m [v]) :
    ∃ (g : Nat) (A : Option Addr) (cap inv : Nat) (tv : Value) (ms : List Nat), v = .pointer (some ⟨g, 0, none⟩) ∧ S g ∧ w.cell? ⟨g, 0, none⟩ = some (.slice A ms.length cap) ∧ w.cell? ⟨g, 1, none⟩ = some (.int .u64 (inv : Int)) ∧ w.cell? ⟨g, 2, none⟩ = some tv ∧
      NatS.rep S w ms [.slice A ms.length cap] ∧ inv < B64 ∧ NumN.rep S w (B64 ^ ms.length * B64 ^ ms.length % m) [tv] ∧ ms.length ≤ cap ∧ cap ≤ 9223372036854775807 ∧ 0 < ms.length ∧ ModOk m (ms, inv, B64 ^ ms.length * B64 ^ ms.length % m) := by
  obtain ⟨⟨ms, inv, two⟩, ⟨g, ds, hv, hS, hg, hrow, a, b, rfl, ha, c, d, rfl, ⟨rfl, hc⟩, hd⟩, hok⟩ := h
  obtain ⟨A, cap, ys, rfl, hcap, hcm, hr⟩ := id ha
  obtain ⟨xs, ⟨A', cap', ys', rfl, hr'⟩, hxs⟩ := id hd
  have e := hok.two
  simp only at e ha hc hd hcap hrow
  subst e
  simp only [List.cons.injEq, and_true] at hv
  have hpos : 0 < ms.length := by
    rcases Nat.eq_zero_or_pos ms.length with h0 | h0
    · obtain rfl := List.eq_nil_of_length_eq_zero h0
      have := hok.val; have := hok.big
      simp [Pl.val] at *; omega
    · exact h0
  exact ⟨g, A, cap, inv, _, ms, hv, hS, hrow.cell 0 (by simp), hrow.cell 1 (by simp), hrow.cell 2 (by simp), ha, hc, hd, hcap, hcm.1, hpos, hok⟩

theorem step_calls (x y a c : Nat) (hx : x < B64) (hy : y < B64) (ha : a < B64) (hc : c < B64) (w : World) :
    Calls Try.prog 84 #[.int .u64 (x : Int), .int .u64 (y : Int), .int .u64 (a : Int), .int .u64 (c : Int)] w fun e w' => e = .returned (.tuple #[.int .u64 (stepLo x y a c : Int), .int .u64 (stepHi x y a c : Int)]) ∧ w = w' := by
  have h1 : ∀ W : World, (callFunc 65 #[.int .u64 (mulLo x y : Int), .int .u64 (a : Int), .int .u64 0]).run Try.prog W = .ok (.value (.tuple #[.int .u64 (addLo (mulLo x y) a 0 : Int), .int .u64 (addHi (mulLo x y) a 0 : Int)])) W := fun W => add64_run _ _ 0 (by omega) W
  have h2 : ∀ W : World, (callFunc 65 #[.int .u64 (addLo (mulLo x y) a 0 : Int), .int .u64 (c : Int), .int .u64 0]).run Try.prog W = .ok (.value (.tuple #[.int .u64 (addLo (addLo (mulLo x y) a 0) c 0 : Int), .int .u64 (addHi (addLo (mulLo x y) a 0) c 0 : Int)])) W := fun W => add64_run _ _ 0 (by omega) W
  have h3 : stepHi x y a c < B64 := stepHi_lt hx hy ha hc
  obtain ⟨H, hH⟩ : ∃ H, H = mulHi x y := ⟨_, rfl⟩
  obtain ⟨K1, hK1⟩ : ∃ H, H = addHi (mulLo x y) a 0 := ⟨_, rfl⟩
  obtain ⟨K2, hK2⟩ : ∃ H, H = addHi (addLo (mulLo x y) a 0) c 0 := ⟨_, rfl⟩
  obtain ⟨L2, hL2⟩ : ∃ H, H = addLo (addLo (mulLo x y) a 0) c 0 := ⟨_, rfl⟩
  have h3' : H + K1 + K2 < B64 := by rw [hH, hK1, hK2]; exact h3
  rw [← hK1] at h1
  rw [← hK2, ← hL2] at h2
  have q1 : IntKind.u64.wrap ((H : Int) + (K1 : Int)) = ((H + K1 : Nat) : Int) := u64_wrap_nat (by omega)
  have q2 : IntKind.u64.wrap (((H + K1 : Nat) : Int) + (K2 : Int)) = ((H + K1 + K2 : Nat) : Int) := u64_wrap_nat h3'
  have e1 : Hid (stepLo x y a c = L2) := by show _ = _; rw [hL2]; rfl
  have e2 : Hid (stepHi x y a c = H + K1 + K2) := by show _ = _; rw [hH, hK1, hK2]; rfl
  rw [e1.out, e2.out]
  have HH := hid hH
  clear hH hK1 hK2 hL2 h3
  go_enter Try.func84, Try.ntmps84
  go_wp2_with fail
  refine (mul64_calls x y hx hy _).mono ?_
  rintro e w' ⟨rfl, rfl⟩
  rw [← HH.out]
  go_wp2
  go_ret2
  have q3 : IntKind.u64.wrap ((H : Int) + (K1 : Int) + (K2 : Int)) = (H : Int) + (K1 : Int) + (K2 : Int) := by have := q2; push_cast at this; exact this
  exact ⟨by simp [q3], rfl⟩

theorem modulus_calls {w : World} {S : Nat → Prop} {m : Nat} {v : Value} (ha : NumN.rep S w m [v]) :
    Calls Try.prog 38 #[.agg #[v]] w fun e w' => (∃ u, e = .returned u ∧ NumN.rep (Fresh w w') w' m [u]) ∧ Below w.heap.size w w' := by
  obtain ⟨p, hP, cp, ea⟩ := ha
  obtain ⟨A, c1, rfl, hc1, hm1⟩ := sl_open hP
  have hb := below_alloc (Below.refl w.heap.size w) (.cells #[.slice A p.length c1] 74)
  have hP1 := (Rep.num .u64 B64).sl.below hP hb
  have Ea := hid ea
  clear ea
  go_enter Try.func38, Try.ntmps38
  go_wp2_with fail
  refine (clone_calls hP1).mono ?_
  rintro e w2 ⟨⟨u', rfl, hu'⟩, hB2⟩
  go_wp2
  go_ret
  exact ⟨⟨_, rfl, p, NatS.mono hu' (Fresh.mono hb.size (Nat.le_refl _)) (Same.refl _ _), cp, Ea.out⟩, below_trans hb hB2⟩

theorem mod_num {S : Nat → Prop} {w : World} {m : Nat} {A : Option Addr} {cap inv two : Nat} {ms : List Nat} (h : NatS.rep S w ms [.slice A ms.length cap]) (hok : ModOk m (ms, inv, two)) : NumN.rep S w m [.slice A ms.length cap] :=
  ⟨ms, h, hok.canon, hok.val⟩
theorem mod_lt {m : Nat} {x : List Nat × Nat × Nat} (hd : Pl.Dig B64 x.1) (h : ModOk m x) : m < B64 ^ 32 := by
  rw [← h.val]
  exact Nat.lt_of_lt_of_le (Pl.val_lt hd) (Nat.pow_le_pow_right B64_pos h.len)
theorem B32_64 : B64 ^ 32 ≤ B64 ^ 64 := Nat.pow_le_pow_right B64_pos (by omega)

/-- what a rest of a number, or that it is too long, answers -/
def ReduceE (m a : Nat) : Except Nat Nat := if B64 ^ 64 ≤ a then .error 2 else .ok (a % m)

theorem reduce_calls {w : World} {S T : Nat → Prop} {m n : Nat} {v va : Value} (hM : ModP.rep S w m [v]) (ha : RawN.rep T w n [va]) :
    Calls Try.prog 24 #[v, va] w fun e w' => NumE (Fresh w w') w' e (ReduceE m n) ∧ Below w.heap.size w w' := by
  obtain ⟨g, A, cap, inv, tv, ms, rfl, hS, c0, c1, c2, hms, hinv, htv, hcap, hcm, hpos, hok⟩ := mod_open hM
  have hlt := mod_lt (num_dig hms) hok
  have hle := B32_64
  have hm0 := hok.big
  have hmn := num_raw (NumN.mono (mod_num hms hok) (S' := fun b => S b ∨ T b) (fun b hb => .inl hb) (Same.refl _ _))
  have ha' := RawN.mono ha (S' := fun b => S b ∨ T b) (fun b hb => .inr hb) (Same.refl _ _)
  by_cases hl : B64 ^ 64 ≤ n
  · rw [show ReduceE m n = .error 2 by unfold ReduceE; rw [if_pos hl]]
    go_enter Try.func24, Try.ntmps24
    go_wp2_with fail
    refine (div_calls ha' hmn).mono ?_
    rintro e w' ⟨h, hw⟩
    unfold DivPost at h
    rw [if_pos (.inl hl)] at h
    subst h
    go_wp2
    go_ret2
    exact ⟨rfl, hw⟩
  · rw [show ReduceE m n = .ok (n % m) by unfold ReduceE; rw [if_neg hl]]
    go_enter Try.func24, Try.ntmps24
    go_wp2_with fail
    refine (div_ok ha' hmn (by omega) (by omega) (by omega)).mono ?_
    rintro e w' ⟨⟨q, r, rfl, hq, hr⟩, hw⟩
    go_wp2
    go_ret2
    exact ⟨⟨_, rfl, hr⟩, hw⟩

theorem long_iff {w : World} {S : Nat → Prop} {n : Nat} {p : List Nat} {v : Value} (hp : NatS.rep S w p [v]) (cp : Pl.Canon p) (ea : Pl.val B64 p = n) : p.length ≤ 64 ↔ n < B64 ^ 64 := by
  rw [← ea]; exact Pl.canon_len_le B64_gt (num_dig hp) cp

theorem pair_ok {w : World} {S T : Nat → Prop} {m a b : Nat} {v va vb : Value} (hM : ModP.rep S w m [v]) (ha : RawN.rep T w a [va]) (hb : RawN.rep T w b [vb]) (hal : a < B64 ^ 64) (hbl : b < B64 ^ 64) :
    Calls Try.prog 56 #[v, va, vb] w fun e w' => (∃ x y, e = .returned (.tuple #[x, y, .nilIface]) ∧ NumN.rep (Fresh w w') w' (a % m) [x] ∧ NumN.rep (Fresh w w') w' (b % m) [y]) ∧ Below w.heap.size w w' := by
  go_enter Try.func56, Try.ntmps56
  go_wp2_with fail
  refine (norm_calls ha).mono ?_
  rintro e w1 ⟨⟨u, rfl, hu⟩, hB1⟩
  obtain ⟨p, hp, cp, ep⟩ := hu
  have lp := (long_iff hp cp ep).2 hal
  obtain ⟨A, c1, rfl, hc1, hm1⟩ := sl_open hp
  clear hp cp ep
  go_wp2_with fail
  refine (norm_calls (RawN.below hb hB1)).mono ?_
  rintro e w2 ⟨⟨u, rfl, hu⟩, hB2⟩
  obtain ⟨q, hq, cq, eq⟩ := hu
  have lq := (long_iff hq cq eq).2 hbl
  obtain ⟨A', c2, rfl, hc2, hm2⟩ := sl_open hq
  clear hq cq eq
  have hB2' := below_trans hB1 hB2
  go_wp2_with fail
  refine (reduce_calls (ModP.below hM hB2') (RawN.below ha hB2')).mono ?_
  rintro e w3 ⟨he, hB3⟩
  unfold ReduceE at he
  rw [if_neg (by omega)] at he
  obtain ⟨x, rfl, hx⟩ := he
  rw [errV_zero]
  have hB3' := below_trans hB2' hB3
  go_wp2_with fail
  refine (reduce_calls (ModP.below hM hB3') (RawN.below hb hB3')).mono ?_
  rintro e w4 ⟨he, hB4⟩
  unfold ReduceE at he
  rw [if_neg (by omega)] at he
  obtain ⟨y, rfl, hy⟩ := he
  rw [errV_zero]
  go_wp2
  go_ret3
  have hs2 := hB2'.size
  have hs3 := hB3.size
  have hs4 := hB4.size
  exact ⟨⟨_, _, rfl, NumN.mono (NumN.below hx hB4) (Fresh.mono hs2 hs4) (Same.refl _ _), NumN.mono hy (Fresh.mono hB3'.size (Nat.le_refl _)) (Same.refl _ _)⟩, below_trans hB3' hB4⟩

theorem pair_long {w : World} {S T : Nat → Prop} {m a b : Nat} {v va vb : Value} (_hM : ModP.rep S w m [v]) (ha : RawN.rep T w a [va]) (hb : RawN.rep T w b [vb]) (hl : B64 ^ 64 ≤ a ∨ B64 ^ 64 ≤ b) :
    Calls Try.prog 56 #[v, va, vb] w fun e w' => e = .returned (.tuple #[.slice none 0 0, .slice none 0 0, .iface 38 (.int .i64 2)]) ∧ Below w.heap.size w w' := by
  go_enter Try.func56, Try.ntmps56
  go_wp2_with fail
  refine (norm_calls ha).mono ?_
  rintro e w1 ⟨⟨u, rfl, hu⟩, hB1⟩
  obtain ⟨p, hp, cp, ep⟩ := hu
  have lp := long_iff hp cp ep
  obtain ⟨A, c1, rfl, hc1, hm1⟩ := sl_open hp
  clear hp cp ep
  by_cases hal : a < B64 ^ 64
  · have lp := lp.2 hal
    go_wp2_with fail
    refine (norm_calls (RawN.below hb hB1)).mono ?_
    rintro e w2 ⟨⟨u, rfl, hu⟩, hB2⟩
    obtain ⟨q, hq, cq, eq⟩ := hu
    have lq := long_iff hq cq eq
    have lq : ¬ q.length ≤ 64 := by rw [lq]; omega
    obtain ⟨A', c2, rfl, hc2, hm2⟩ := sl_open hq
    clear hq cq eq
    go_wp2
    go_ret3
    exact ⟨rfl, below_trans hB1 hB2⟩
  · have lp : ¬ p.length ≤ 64 := by rw [lp]; exact hal
    go_wp2
    go_ret3
    exact ⟨rfl, hB1⟩

end Go.Proofs.Ytphbacggmhjmgaa

/- The layer mont, second part: numbers with all digits of the modulus. -/
namespace Go.Proofs.Ytphbacggmhjmgaa
open Go.RowKit

/-- how many digits count -/
def limbs (m : Nat) : Nat := (bitLen m + 63) / 64
theorem limbs_le_iff {m l : Nat} : limbs m ≤ l ↔ m < B64 ^ l := by
  have e : B64 ^ l = 2 ^ (64 * l) := by rw [Nat.pow_mul]; rfl
  rw [e, ← bitLen_le_iff]
  unfold limbs
  omega
theorem canon_limbs {xs : List Nat} (hd : Pl.Dig B64 xs) (hc : Pl.Canon xs) : xs.length = limbs (Pl.val B64 xs) := by
  have h1 := fun l => Pl.canon_len_le (n := l) B64_gt hd hc
  have h2 := (h1 xs.length).1 (Nat.le_refl _)
  have h3 := limbs_le_iff.2 h2
  have h4 := (h1 (limbs (Pl.val B64 xs))).2 (limbs_le_iff.1 (Nat.le_refl _))
  omega
theorem mod_limbs {m : Nat} {x : List Nat × Nat × Nat} (hd : Pl.Dig B64 x.1) (h : ModOk m x) : x.1.length = limbs m := by
  rw [canon_limbs hd h.canon, h.val]

/-- a number of so many digits -/
def WideN (n : Nat) : Rep Nat := NatS.ex fun v xs => xs.length = n ∧ Pl.val B64 xs = v

theorem splice_wide {k : IntKind} {n : Nat} {xs : List Nat} : splice (zerosOf (.int k 0) n).toList 0 (nums k xs) = nums k (xs ++ List.replicate (n - xs.length) 0) := by
  rw [zerosOf_num]
  simp only [splice, List.take_zero, List.nil_append, Nat.zero_add, nums_length]
  simp only [nums, ← List.map_drop, List.drop_replicate, List.map_append]

theorem wide_calls {w : World} {S T : Nat → Prop} {m : Nat} {xs : List Nat} {v va : Value} (hM : ModP.rep S w m [v]) (ha : NatS.rep T w xs [va]) (n : Nat) (hn : Hid (n = limbs m)) (hx : xs.length ≤ n) :
    Calls Try.prog 68 #[v, va] w fun e w' => (∃ u, e = .returned u ∧ (WideN n).rep (Fresh w w') w' (Pl.val B64 xs) [u]) ∧ Below w.heap.size w w' := by
  obtain ⟨g, A, cap, inv, tv, ms, rfl, hS, c0, c1, c2, hms, hinv, htv, hcap, hcm, hpos, hok⟩ := mod_open hM
  have hml : ms.length = n := (mod_limbs (num_dig hms) hok).trans hn.out.symm
  rw [hml] at c0 hcap
  have hn32 : n ≤ 32 := by rw [← hml]; exact hok.len
  obtain ⟨A', cap', rfl, hc', hm'⟩ := sl_open ha
  have hmk : ∀ W : World, (Instr.makeSlice 24 (.int .i64 (n : Int)) (.int .i64 (n : Int))).run Try.prog W = .ok (.slice (some ⟨W.heap.size, 0, none⟩) n n) (W.alloc (.cells (zerosOf (.int .u64 0) n) 65)) := fun W => run_make_u64 n (by omega) W
  have hb := below_alloc (Below.refl w.heap.size w) (.cells (zerosOf (.int .u64 0) n) 65)
  have ha1 := (Rep.num .u64 B64).sl.below ha hb
  have hrow := Row.new w 65 (zerosOf (.int .u64 0) n)
  have hd := num_dig ha
  have hone : ∀ v ∈ nums .u64 xs, v.oneCell' = true := by
    intro v hv
    obtain ⟨a, _, rfl⟩ := List.mem_map.1 hv
    rfl
  have hsrc : 0 < (nums .u64 xs).length → (some ⟨w.heap.size, 0, none⟩ : Option Addr) = some ⟨w.heap.size, 0, none⟩ ∧ ∃ ad, A' = some ad ∧ ∀ j u, (nums .u64 xs)[j]? = some u → (w.alloc (.cells (zerosOf (.int .u64 0) n) 65)).cell? (ad.add j) = some u := by
    intro hp
    rw [nums_length] at hp
    obtain ⟨b2, o2, ys, rfl, hb2, hat2, hrl2⟩ := sl_cells ha1 hp
    obtain ⟨rfl, _⟩ := repL_num.1 hrl2
    refine ⟨rfl, _, rfl, fun j u hu => ?_⟩
    obtain ⟨hj, rfl⟩ := List.getElem?_eq_some_iff.1 hu
    have ha : (⟨b2, o2, none⟩ : Addr).add j = ⟨b2, o2 + j, none⟩ := by unfold Addr.add; split <;> simp_all
    rw [ha]
    exact hat2.cell j hj
  have hlen : (nums .u64 xs).length = Nat.min xs.length n := by rw [nums_length]; exact (Nat.min_eq_left hx).symm
  have hfit : 0 + (nums .u64 xs).length ≤ (zerosOf (.int .u64 0) n).toList.length := by rw [nums_length, zerosOf_toList, List.length_replicate]; omega
  have Hml := hid hml
  have Hlen := hid hlen
  clear hml hlen hM hms htv hok hn
  go_enter Try.func68, Try.ntmps68
  go_upto_region 2 with (fail)
  apply wp_region_lit
  iterate 6 go_step
  refine wpList_copy_splice rfl _ _ 24 24 rfl 65 Try.underlying24 size65 (some ⟨w.heap.size, 0, none⟩) A' n n xs.length cap' (by rfl) (by rfl) w.heap.size 0 (zerosOf (.int .u64 0) n).toList 65 hrow (nums .u64 xs) Hlen.out hsrc hfit hone w.heap.size w hb (Nat.le_refl _) ?_
  intro w' hr hB
  have hr' : Row w' w.heap.size 65 (nums .u64 (xs ++ List.replicate (n - xs.length) 0)) := by
    have := hr.out
    rw [splice_wide] at this
    exact this
  have hln : (xs ++ List.replicate (n - xs.length) 0).length = n := by simp; omega
  have hsl := hr'.slNum (S := Fresh w w') ⟨Nat.le_refl _, hr'.lt⟩ (hd.append (Pl.Dig.replicate B64_pos _)) n (by omega) (by omega) (by omega)
  rw [hln] at hsl
  have hv : Pl.val B64 (xs ++ List.replicate (n - xs.length) 0) = Pl.val B64 xs := by rw [Pl.val_append, Pl.val_replicate]; simp
  have Hln := hid hln
  have Hv := hid hv
  clear hr hr' hln hv
  go_wp2
  go_ret
  exact ⟨⟨_, rfl, _, hsl, Hln.out, Hv.out⟩, hB⟩

end Go.Proofs.Ytphbacggmhjmgaa

/- The layer mont, third part: Montgomery's product. -/
namespace Go.Proofs.Ytphbacggmhjmgaa
open Go.RowKit

theorem step_still (x y a c L H : Nat) (hx : x < B64) (hy : y < B64) (ha : a < B64) (hc : c < B64) (hL : Hid (L = stepLo x y a c)) (hH : Hid (H = stepHi x y a c)) (w : World) :
    Calls Try.prog 84 #[.int .u64 (x : Int), .int .u64 (y : Int), .int .u64 (a : Int), .int .u64 (c : Int)] w fun e w' => e = .returned (.tuple #[.int .u64 (L : Int), .int .u64 (H : Int)]) ∧ w' = w := by
  rw [hL.out, hH.out]
  exact (step_calls x y a c hx hy ha hc w).mono fun e w' ⟨h, h2⟩ => ⟨h, h2.symm⟩
theorem step_quiet (x y a c L H : Nat) (hx : x < B64) (hy : y < B64) (ha : a < B64) (hc : c < B64) (hL : Hid (L = stepLo x y a c)) (hH : Hid (H = stepHi x y a c)) (w : World) :
    Calls Try.prog 84 #[.int .u64 (x : Int), .int .u64 (y : Int), .int .u64 (a : Int), .int .u64 (c : Int)] w fun e w' => e = .returned (.tuple #[.int .u64 (L : Int), .int .u64 (H : Int)]) ∧ ∃ n, w' = w.drewN n :=
  (step_still x y a c L H hx hy ha hc hL hH w).mono fun _ _ ⟨h, h2⟩ => ⟨h, 0, h2⟩

theorem step_quiet0 (x y a L H : Nat) (hx : x < B64) (hy : y < B64) (ha : a < B64) (hL : Hid (L = stepLo x y a 0)) (hH : Hid (H = stepHi x y a 0)) (w : World) :
    Calls Try.prog 84 #[.int .u64 (x : Int), .int .u64 (y : Int), .int .u64 (a : Int), .int .u64 0] w fun e w' => e = .returned (.tuple #[.int .u64 (L : Int), .int .u64 (H : Int)]) ∧ ∃ n, w' = w.drewN n :=
  step_quiet x y a 0 L H hx hy ha B64_pos hL hH w
theorem still_below {B : Nat} {w0 w w' : World} (h : Below B w0 w) (k : Still w w') : Below B w0 w' :=
  ⟨k.below.os.trans h.os, k.below.tape.trans h.tape, k.below.output.trans h.output, Nat.le_trans h.size k.below.size, fun b hb => by rw [k.heap]; exact h.block b hb⟩

/-- what makes the lowest digit nought -/
theorem mont_q {inv m0 t0 m q : Nat} {ms : List Nat} (_hd : Pl.Dig B64 ms) (hp : 0 < ms.length) (hm : Pl.val B64 ms = m) (hm0 : ms[0] = m0) (hinv : (inv * m + 1) % B64 = 0) (hq : q = t0 * inv % B64) :
    stepLo q m0 t0 0 = 0 ∧ B64 * stepHi q m0 t0 0 = q * m0 + t0 := by
  have h := step_parts q m0 t0 0
  have hl := stepLo_lt q m0 t0 0
  have hv := Pl.val_drop B64 ms 0 hp
  rw [List.drop_zero, hm, hm0] at hv
  have h0 : (q * m0 + t0) % B64 = 0 := by
    have e1 : (q * m0 + t0) % B64 = (t0 * (inv * m + 1)) % B64 := by
      rw [hq, Nat.add_mod, Nat.mul_mod, Nat.mod_mod, ← Nat.mul_mod, ← Nat.add_mod, Nat.mul_add, Nat.mul_one, hv, ← Nat.mul_assoc, Nat.mul_add, ← Nat.mul_assoc (t0 * inv), Nat.mul_right_comm (t0 * inv) B64, Nat.add_right_comm, Nat.add_mul_mod_self_right]
    rw [e1, Nat.mul_mod, hinv, Nat.mul_zero, Nat.zero_mod]
  have h2 : stepLo q m0 t0 0 = 0 := by
    have h1 := congrArg (· % B64) h
    simp only [Nat.add_zero, Nat.add_mul_mod_self_left, h0] at h1
    rwa [Nat.mod_eq_of_lt hl] at h1
  rw [h2] at h
  exact ⟨h2, by omega⟩

/-- what holds of the partial product at the head of each round -/
def Part (w : World) (gt n m A : Nat) (ys : List Nat) (i : Nat) (ts : List Nat) (wr : World) : Prop :=
  ts.length = n + 2 ∧ Pl.Dig B64 ts ∧ Row wr gt 65 (nums .u64 ts) ∧ Pl.val B64 (ts.take (n + 1)) < A + m ∧ (∃ Q, B64 ^ i * Pl.val B64 (ts.take (n + 1)) = A * Pl.val B64 (ys.take i) + Q * m) ∧ Below w.heap.size w wr

set_option maxHeartbeats 8000000 in
set_option maxRecDepth 100000 in
theorem product_calls {w : World} {S T : Nat → Prop} {m A D : Nat} {v va vb : Value} (n : Nat) (hn : Hid (n = limbs m)) (hM0 : ModP.rep S w m [v]) (ha : (WideN n).rep T w A [va]) (hb : (WideN n).rep T w D [vb]) (hA : A < m) :
    Calls Try.prog 69 #[v, va, vb] w fun e w' => (∃ u, e = .returned u ∧ (WideN n).rep (Fresh w w') w' (A * D * Pl.rinv m n % m) [u]) ∧ Below w.heap.size w w' := by
  have hM := ModP.old hM0
  obtain ⟨g, MA, mcap, inv, tv, ms, rfl, hg, c0, c1, c2, hms, hinv, htv, hcap, hcm, hpos, hok⟩ := mod_open hM
  have hml : ms.length = n := (mod_limbs (num_dig hms) hok).trans hn.out.symm
  rw [hml] at c0 hcap hpos hms
  have hn32 : n ≤ 32 := by rw [← hml]; exact hok.len
  obtain ⟨xs, hxs, hxl, hxv⟩ := ha
  obtain ⟨ys, hys, hyl, hyv⟩ := hb
  obtain ⟨XA, xcap, rfl, hxc, hxm⟩ := sl_open hxs
  obtain ⟨YA, ycap, rfl, hyc, hym⟩ := sl_open hys
  rw [hxl] at hxs hxc ⊢
  rw [hyl] at hys hyc ⊢
  have hmk : ∀ W : World, (Instr.makeSlice 24 (.int .i64 ((n : Int) + 2)) (.int .i64 ((n : Int) + 2))).run Try.prog W = .ok (.slice (some ⟨W.heap.size, 0, none⟩) (n + 2) (n + 2)) (W.alloc (.cells (zerosOf (.int .u64 0) (n + 2)) 65)) := fun W => run_make_u64 (n + 2) (by omega) W
  have hrow0 := Row.new w 65 (zerosOf (.int .u64 0) (n + 2))
  rw [zerosOf_num] at hrow0
  have hb0 := below_alloc (Below.refl w.heap.size w) (.cells (zerosOf (.int .u64 0) (n + 2)) 65)
  have dm := num_dig hms
  have dx := num_dig hxs
  have dy := num_dig hys
  have Hml := hid hml
  have Hxl := hid hxl
  have Hyl := hid hyl
  have Hxv := hid hxv
  have Hyv := hid hyv
  clear hml hxl hyl hxv hyv hM
  have hst : Part w w.heap.size n m A ys 0 (List.replicate (n + 2) 0) (w.alloc (.cells (zerosOf (.int .u64 0) (n + 2)) 65)) := by
    refine ⟨by simp, Pl.Dig.replicate B64_pos _, hrow0, ?_, ⟨0, ?_⟩, hb0⟩
    · rw [List.take_replicate, Pl.val_replicate]; have := hok.big; omega
    · rw [List.take_replicate, Pl.val_replicate]; simp [Pl.val]
  obtain ⟨gt, hgt⟩ : ∃ gt, gt = w.heap.size := ⟨_, rfl⟩
  have hgt2 : w.heap.size ≤ gt := by omega
  go_enter Try.func69, Try.ntmps69
  go_wp2_with fail
  rw [← hgt] at hst ⊢
  clear hgt hrow0 hb0 hmk
  go_loopw [28] (fun iv wr => ∃ (i : Nat) (ts : List Nat), iv = .int .i64 (i : Int) ∧ i ≤ n ∧ Part w gt n m A ys i ts wr) (fun iv _ => n - (intOf iv).toNat)
  case atStart => exact ⟨0, _, rfl, by omega, hst⟩
  case round =>
    clear hst
    obtain ⟨i, ts, rfl, hi, htl, htd, hrow, hsmall, hpart, hB⟩ := hrel
    obtain ⟨wo, rfl⟩ : ∃ wo : World, wo = wr := ⟨_, rfl⟩
    by_cases hlt : i < n
    · have hiy : i < ys.length := by have := Hyl.out; omega
      obtain ⟨y, hy⟩ : ∃ y, y = ys[i] := ⟨_, rfl⟩
      have hyb : y < B64 := by rw [hy]; exact dy.at i hiy
      have Hy := hid hy
      obtain ⟨TT, hTT⟩ : ∃ TT, TT = Pl.val B64 (ts.take (n + 1)) := ⟨_, rfl⟩
      rw [← hTT] at hsmall hpart
      have Hpart := hid hpart
      have HTT := hid hTT
      clear hy hpart hTT
      go_wp2_with fail
      go_loopw [32, 10] (fun jv cv wr => ∃ (j c : Nat) (us : List Nat), jv = .int .i64 (j : Int) ∧ cv = .int .u64 (c : Int) ∧ j ≤ n ∧ c < B64 ∧ us.length = n + 2 ∧ Pl.Dig B64 us ∧ Row wr gt 65 (nums .u64 us)
        ∧ Hid (Pl.val B64 (us.take (n + 1)) + B64 ^ j * c = TT + Pl.val B64 (xs.take j) * y) ∧ Below w.heap.size w wr) (fun jv _ _ => n - (intOf jv).toNat)
      case atStart => exact ⟨0, 0, ts, rfl, rfl, by omega, B64_pos, htl, htd, hrow, hid (by rw [← HTT.out]; simp [Pl.val]), hB⟩
      case round =>
        clear hrow hB htl htd HTT ts
        obtain ⟨j, c, us, rfl, rfl, hj, hc, hul, hud, hrow, hinv1, hB⟩ := hrel
        by_cases hlj : j < n
        · have hjx : j < xs.length := by have := Hxl.out; omega
          have hju : j < us.length := by omega
          obtain ⟨b1, o1, rfl, _, hx1, hxb⟩ := num_at ((Rep.num .u64 B64).sl.below hxs hB) j hjx
          obtain ⟨b2, o2, rfl, _, hy1, _⟩ := num_at ((Rep.num .u64 B64).sl.below hys hB) i hiy
          rw [← Hy.out] at hy1
          have ht1 := hrow.num (k := .u64) j hju
          have hf1 := hrow.frozen j
          have htb := hud.at j hju
          obtain ⟨x, hx⟩ : ∃ x, x = xs[j] := ⟨_, rfl⟩
          obtain ⟨t, ht⟩ : ∃ t, t = us[j] := ⟨_, rfl⟩
          rw [← hx] at hx1 hxb
          rw [← ht] at ht1 htb
          obtain ⟨L, hL⟩ : ∃ L, L = stepLo x y t c := ⟨_, rfl⟩
          obtain ⟨H, hH⟩ : ∃ H, H = stepHi x y t c := ⟨_, rfl⟩
          have hs := step_parts x y t c
          rw [← hL, ← hH] at hs
          have hHb : H < B64 := by rw [hH]; exact stepHi_lt hxb hyb htb hc
          have hLb : L < B64 := by rw [hL]; exact stepLo_lt _ _ _ _
          have hinv2 := hid (Pl.mont_one (B := B64) hul hlj hjx hx.symm (by rw [hs, ht]) hinv1.out)
          have hrow2 := hrow.setNum (k := .u64) j L
          have hud2 := hud.set j hLb
          have hB2 := below_setCell hB (p := ⟨gt, j, none⟩) hgt2 (.int .u64 (L : Int))
          have HL := hid hL
          have HH := hid hH
          have Hul := hid hul
          have hj0 : (0 : Int) ≤ (j : Int) := by omega
          have hj1 : (j : Int) < (n : Int) := by omega
          have hj2 : (j : Int) < (n : Int) + 2 := by omega
          have hi0 : (0 : Int) ≤ (i : Int) := by omega
          have hi1 : (i : Int) < (n : Int) := by omega
          clear hx ht hL hH hs hinv1 hrow hB hul
          go_upto_region 10 with (fail)
          go_region_law ((go_simp; go_at_call 84; refine (step_still x y t c L H hxb hyb htb hc HL HH _).mono ?_; rintro e w' ⟨rfl, rfl⟩))
          all_goals
            go_wp2_with fail
            go_roundw
            case rel => exact ⟨j + 1, H, us.set j L, by go_num, rfl, by omega, hHb, by rw [List.length_set]; exact Hul.out, hud2, hrow2, hinv2, hB2.drew⟩
            case measure => simp [intOf]; omega
        · obtain rfl : n = j := by omega
          have hnu : n < us.length := by omega
          have hnu1 : n + 1 < us.length := by omega
          have h0u : 0 < us.length := by omega
          have ht1 := hrow.num (k := .u64) n hnu
          have ht2 := hrow.num (k := .u64) (n + 1) hnu1
          have hf1 := hrow.frozen n
          have hf2 := hrow.frozen (n + 1)
          have htb := hud.at n hnu
          obtain ⟨t, ht⟩ : ∃ t, t = us[n] := ⟨_, rfl⟩
          rw [← ht] at ht1 htb
          have hs := add_parts t c 0
          have hK1 := addHi_le htb hc (Nat.zero_le 1)
          obtain ⟨L, hL⟩ : ∃ L, L = addLo t c 0 := ⟨_, rfl⟩
          obtain ⟨K1, hKe⟩ : ∃ K1, K1 = addHi t c 0 := ⟨_, rfl⟩
          have hadd : ∀ W : World, (callFunc 65 #[.int .u64 (t : Int), .int .u64 (c : Int), .int .u64 0]).run Try.prog W = .ok (.value (.tuple #[.int .u64 (L : Int), .int .u64 (K1 : Int)])) W := fun W => by
            rw [hL, hKe]; exact add64_run t c 0 (by omega) W
          rw [← hL, ← hKe, Nat.add_zero] at hs
          rw [← hKe] at hK1
          have hLb : L < B64 := by rw [hL]; exact addLo_lt _ _ _
          have hT1 := Pl.mont_top (B := B64) hul (by rw [hs, ht]) hinv1.out
          rw [List.take_of_length_le (l := xs) (by have := Hxl.out; omega), Hxv.out] at hT1
          have hrow2 := (hrow.setNum (k := .u64) n L).setNum (k := .u64) (n + 1) K1
          have hK1b : K1 < B64 := Nat.lt_of_le_of_lt hK1 B64_gt
          have hud2 := (hud.set n hLb).set (n + 1) hK1b
          have hB2 := below_setCell (below_setCell hB (p := ⟨gt, n, none⟩) hgt2 (.int .u64 (L : Int))) (p := ⟨gt, n + 1, none⟩) hgt2 (.int .u64 (K1 : Int))
          obtain ⟨us2, hus2⟩ : ∃ us2, us2 = (us.set n L).set (n + 1) K1 := ⟨_, rfl⟩
          have hul2 : us2.length = n + 2 := by rw [hus2]; simpa using hul
          have hz1 : n + 1 < us2.length := by omega
          have hz0 : 0 < us2.length := by omega
          have htop2 : us2[n + 1] = K1 := by simp [hus2]
          rw [← hus2] at hT1 hrow2 hud2
          have HT1 := hid hT1
          have Htop2 := hid htop2
          have Hul2 := hid hul2
          clear hT1 hinv1 hrow hB hud hus2 htop2 hul2 hs hKe hL ht
          go_upto_region 15 with (fail)
          generalize (wr.setCell ⟨gt, n, none⟩ (.int .u64 (L : Int))).setCell ⟨gt, n + 1, none⟩ (.int .u64 (K1 : Int)) = w5 at hB2 hrow2 ⊢
          obtain ⟨t0, ht0⟩ : ∃ t0, t0 = us2[0] := ⟨_, rfl⟩
          have hc0 := hrow2.num (k := .u64) 0 hz0
          have ht0b := hud2.at 0 hz0
          rw [← ht0] at hc0 ht0b
          have d0 := (hB2.cell (p := ⟨g, 0, none⟩) hg).trans c0
          have d1 := (hB2.cell (p := ⟨g, 1, none⟩) hg).trans c1
          have hm0l : 0 < ms.length := by have := Hml.out; omega
          obtain ⟨bm, om, rfl, hbm, hm0c, hm0b⟩ := num_at hms 0 hm0l
          have hm0d := (hB2.cell (p := ⟨bm, om + 0, none⟩) hbm).trans hm0c
          obtain ⟨m0, hm0⟩ : ∃ m0, m0 = ms[0] := ⟨_, rfl⟩
          rw [← hm0] at hm0d hm0b
          rw [Nat.add_zero] at hm0d
          obtain ⟨q, hq⟩ : ∃ q, q = t0 * inv % B64 := ⟨_, rfl⟩
          have hqw : IntKind.u64.wrap ((t0 : Int) * (inv : Int)) = (q : Int) := by rw [hq]; exact u64_mod (by push_cast; rfl)
          have hqb : q < B64 := by rw [hq]; exact Nat.mod_lt _ B64_pos
          obtain ⟨q1, q2⟩ := mont_q dm hm0l hok.val hm0.symm hok.inv hq
          obtain ⟨C0, hC0⟩ : ∃ C0, C0 = stepHi q m0 t0 0 := ⟨_, rfl⟩
          rw [← hC0] at q2
          have hC0b : C0 < B64 := by rw [hC0]; exact stepHi_lt hqb hm0b ht0b B64_pos
          have hinv3 := hid (Pl.mont_start (B := B64) Hul2.out hm0l hm0.symm (by rw [q2, ht0]) HT1.out)
          have HC0 := hid hC0
          have HL0 : Hid (0 = stepLo q m0 t0 0) := q1.symm
          clear ht0 hm0 hq q1 q2 hC0
          go_quiet (fail)
          obtain ⟨w6, hw6⟩ : ∃ w6, w6 = w5.drewN nq := ⟨_, rfl⟩
          rw [← hw6]
          have hst6 : Still w5 w6 := by rw [hw6]; exact Still.drewN _ _
          clear hw6
          have hB6 := still_below hB2 hst6
          have hrow6 := hst6.row hrow2
          have f0 := (hst6.cell _).trans d0
          have fm := (hst6.cell _).trans hm0d
          have ft := (hst6.cell _).trans hc0
          clear hc0 d0 d1 hm0d hst6 hrow2 hB2
          go_wp2_with fail
          go_quiet ((go_at_call 84; exact Calls.quiet_of (step_quiet0 q m0 t0 0 C0 hqb hm0b ht0b HL0 HC0 _)))
          obtain ⟨w7, hw7⟩ : ∃ w7, w7 = w6.drewN nq := ⟨_, rfl⟩
          rw [← hw7]
          have hst7 : Still w6 w7 := by rw [hw7]; exact Still.drewN _ _
          clear hw7
          have hB7 := still_below hB6 hst7
          have hrow7 := hst7.row hrow6
          clear f0 fm ft hst7 hrow6 hB6
          go_wp2_with fail
          go_loopw [14, 10] (fun jv cv wr => ∃ (j c : Nat) (us : List Nat), jv = .int .i64 ((j : Int) + 1) ∧ cv = .int .u64 (c : Int) ∧ j + 1 ≤ n ∧ c < B64 ∧ us.length = n + 2 ∧ Pl.Dig B64 us ∧ Row wr gt 65 (nums .u64 us)
            ∧ Hid (B64 * Pl.val B64 (us.take j) + B64 ^ (j + 1) * (c + Pl.val B64 (us.drop (j + 1))) = TT + A * y + q * Pl.val B64 (ms.take (j + 1))) ∧ Hid (us.getD (n + 1) 0 = K1) ∧ Below w.heap.size w wr) (fun jv _ _ => n - (intOf jv).toNat)
          case atStart => exact ⟨0, C0, us2, rfl, rfl, by omega, hC0b, Hul2.out, hud2, hrow7, hinv3, hid (by rw [dec_at us2 (n + 1) hz1]; exact Htop2.out), hB7⟩
          case round =>
            clear hrow7 hB7 hinv3 hud2 HC0 HL0
            obtain ⟨j, c, us, rfl, rfl, hj, hc, hul, hud, hrow, hinv1, htop, hB⟩ := hrel
            have Hul := hid hul
            by_cases hlj : j + 1 < n
            · have hjm : j + 1 < ms.length := by have := Hml.out; omega
              have hju : j + 1 < us.length := by omega
              have hju0 : j < us.length := by omega
              have d0 := (hB.cell (p := ⟨g, 0, none⟩) hg).trans c0
              obtain ⟨_, _, hx, hbm', hmj, hmjb⟩ := num_at ((Rep.num .u64 B64).sl.below hms hB) (j + 1) hjm
              injection hx with hx
              injection hx with hx1 hx2
              subst hx1 hx2
              clear hbm'
              have htj := hrow.num (k := .u64) (j + 1) hju
              have htj0 := hrow.num (k := .u64) j hju0
              have hfj := hrow.frozen j
              have htb := hud.at (j + 1) hju
              obtain ⟨mj, hmje⟩ : ∃ x, x = ms[j + 1] := ⟨_, rfl⟩
              obtain ⟨t, ht⟩ : ∃ t, t = us[j + 1] := ⟨_, rfl⟩
              rw [← hmje] at hmj hmjb
              rw [← ht] at htj htb
              obtain ⟨L2, hL2⟩ : ∃ L, L = stepLo q mj t c := ⟨_, rfl⟩
              obtain ⟨H2, hH2⟩ : ∃ H, H = stepHi q mj t c := ⟨_, rfl⟩
              have hs := step_parts q mj t c
              rw [← hL2, ← hH2] at hs
              have hHb : H2 < B64 := by rw [hH2]; exact stepHi_lt hqb hmjb htb hc
              have hLb2 : L2 < B64 := by rw [hL2]; exact stepLo_lt _ _ _ _
              have hinv2 := hid (Pl.mont_two (B := B64) hju hjm hmje.symm (by rw [hs, ht]) hinv1.out)
              have hrow2 := hrow.setNum (k := .u64) j L2
              have hud2 := hud.set j hLb2
              have hB2 := below_setCell hB (p := ⟨gt, j, none⟩) hgt2 (.int .u64 (L2 : Int))
              have htop2 : Hid ((us.set j L2).getD (n + 1) 0 = K1) := by
                have := htop.out
                show _ = _
                simp only [List.getD_eq_getElem?_getD] at this ⊢
                rwa [List.getElem?_set_ne (by omega)]
              have HL2 := hid hL2
              have HH2 := hid hH2
              have hj0 : (0 : Int) ≤ (j : Int) := by omega
              have hj1 : (j : Int) + 1 < (n : Int) := by omega
              have hj2 : (j : Int) + 1 < (n : Int) + 2 := by omega
              have hj3 : (0 : Int) ≤ (j : Int) + 1 := by omega
              have hj4 : (j : Int) < (n : Int) + 2 := by omega
              have hw0 : IntKind.i64.wrap (j : Int) = (j : Int) := IntWalk.i64_in _ (by omega)
              clear hmje ht hL2 hH2 hs hinv1 hrow hB hul
              go_upto_region 20 with (fail)
              go_region_law ((go_simp; go_at_call 84; refine (step_still q mj t c L2 H2 hqb hmjb htb hc HL2 HH2 _).mono ?_; rintro e w' ⟨rfl, rfl⟩))
              all_goals
                go_wp2_with fail
                go_roundw
                case rel => exact ⟨j + 1, by push_cast; rfl, H2, rfl, by omega, hHb, us.set j L2, by rw [List.length_set]; exact Hul.out, hud2, hrow2, hinv2, htop2, hB2.drew⟩
                case measure => simp [intOf]; omega
            · have hjn : j + 1 = n := by omega
              have hjn0 : j = n - 1 := by omega
              have hnu : n < us.length := by omega
              have hnu1 : n + 1 < us.length := by omega
              have hnu2 : n - 1 < us.length := by omega
              have hta := hrow.num (k := .u64) n hnu
              have htz := hrow.num (k := .u64) (n - 1) hnu2
              have hfz := hrow.frozen (n - 1)
              have htb := hud.at n hnu
              have htop' : us[n + 1] = K1 := by have := htop.out; rwa [dec_at us (n + 1) hnu1] at this
              obtain ⟨t, ht⟩ : ∃ t, t = us[n] := ⟨_, rfl⟩
              rw [← ht] at hta htb
              have hs := add_parts t c 0
              have hK2 := addHi_le htb hc (Nat.zero_le 1)
              obtain ⟨L3, hL3⟩ : ∃ L, L = addLo t c 0 := ⟨_, rfl⟩
              obtain ⟨K2, hK2e⟩ : ∃ K, K = addHi t c 0 := ⟨_, rfl⟩
              have hadd3 : ∀ W : World, (callFunc 65 #[.int .u64 (t : Int), .int .u64 (c : Int), .int .u64 0]).run Try.prog W = .ok (.value (.tuple #[.int .u64 (L3 : Int), .int .u64 (K2 : Int)])) W := fun W => by
                rw [hL3, hK2e]; exact add64_run t c 0 (by omega) W
              rw [← hL3, ← hK2e, Nat.add_zero] at hs
              rw [← hK2e] at hK2
              have hL3b : L3 < B64 := by rw [hL3]; exact addLo_lt _ _ _
              have hrowA := hrow.setNum (k := .u64) (n - 1) L3
              have hcn1 := hrowA.num (k := .u64) (n + 1) (by rw [List.length_set]; exact hnu1)
              have hcn0 := hrowA.num (k := .u64) n (by rw [List.length_set]; exact hnu)
              have hfn0 := hrowA.frozen n
              have e1 : (us.set (n - 1) L3)[n + 1]'(by rw [List.length_set]; exact hnu1) = K1 := by rw [List.getElem_set_ne (by omega)]; exact htop'
              rw [e1] at hcn1
              obtain ⟨u, hu⟩ : ∃ u, u = K1 + K2 := ⟨_, rfl⟩
              have hub : u < B64 := by rw [hu]; unfold B64; omega
              have huw : IntKind.u64.wrap ((K1 : Int) + (K2 : Int)) = (u : Int) := by rw [hu]; exact u64_wrap_nat (by rw [← hu]; exact hub)
              have hrowB := hrowA.setNum (k := .u64) n u
              have hudB := (hud.set (n - 1) hL3b).set n hub
              have hBB := below_setCell (below_setCell hB (p := ⟨gt, n - 1, none⟩) hgt2 (.int .u64 (L3 : Int))) (p := ⟨gt, n, none⟩) hgt2 (.int .u64 (u : Int))
              have hinv4 : B64 * Pl.val B64 (us.take (n - 1)) + B64 ^ n * (c + Pl.val B64 (us.drop n)) = TT + A * y + q * Pl.val B64 (ms.take n) := by
                have := hinv1.out
                rw [hjn] at this
                rwa [hjn0] at this
              have hround := Pl.mont_round (B := B64) (u := u) hul hpos Hml.out hok.val (by rw [hs, ht]) (by rw [hu, htop']) hinv4
              obtain ⟨us4, hus4⟩ : ∃ x, x = (us.set (n - 1) L3).set n u := ⟨_, rfl⟩
              rw [← hus4] at hround hrowB hudB
              have hul4 : us4.length = n + 2 := by rw [hus4, List.length_set, List.length_set]; exact hul
              have hsm := Pl.mont_small hyb hqb hsmall hround
              have hpt : ∃ Q, B64 ^ (i + 1) * Pl.val B64 (us4.take (n + 1)) = A * Pl.val B64 (ys.take (i + 1)) + Q * m := by
                obtain ⟨Q, hQ⟩ := Hpart.out
                exact ⟨_, Pl.mont_part hiy Hy.out.symm hround hQ⟩
              have hPart : Part w gt n m A ys (i + 1) us4 ((wr.setCell ⟨gt, n - 1, none⟩ (.int .u64 (L3 : Int))).setCell ⟨gt, n, none⟩ (.int .u64 (u : Int))) := ⟨hul4, hudB, hrowB, hsm, hpt, hBB⟩
              have i1 : IntKind.i64.wrap ((n : Int) - 1) = ((n - 1 : Nat) : Int) := by
                rw [show (n : Int) - 1 = ((n - 1 : Nat) : Int) by omega]; exact IntWalk.i64_in _ (by omega)
              have hj9 : ¬ (j : Int) + 1 < (n : Int) := by omega
              clear hinv4 hround hus4 hul4 hsm hpt hu e1 hs hK2e hL3 ht htop' hjn hjn0 hinv1 htop hul hrow hB hud hrowB hBB hudB
              go_wp2_with fail
              go_roundw
              case rel => exact ⟨i + 1, us4, by go_num, by omega, hPart⟩
              case measure => simp [intOf]; omega
    · obtain rfl : n = i := by omega
      obtain ⟨Q, hQ⟩ := hpart
      rw [List.take_of_length_le (l := ys) (by have := Hyl.out; omega), Hyv.out] at hQ
      have hmR : m < B64 ^ n := by rw [← hok.val]; have := Pl.val_lt dm; rwa [Hml.out] at this
      obtain ⟨tn, hTn⟩ : ∃ tn, Pl.val B64 (ts.take (n + 1)) = Pl.val B64 (ts.take n) + B64 ^ n * tn := ⟨_, Pl.val_take_succ B64 ts n (by omega)⟩
      have hsp1 : ts = [] ++ ts.take (n + 1) ++ ts.drop (n + 1) := by rw [List.nil_append, List.take_append_drop]
      have hsp0 : ts = [] ++ ts.take n ++ ts.drop n := by rw [List.nil_append, List.take_append_drop]
      have hrow1 : Row wo gt 65 (nums .u64 ([] ++ ts.take (n + 1) ++ ts.drop (n + 1))) := by rw [← hsp1]; exact hrow
      have hrow2 : Row wo gt 65 (nums .u64 ([] ++ ts.take n ++ ts.drop n)) := by rw [← hsp0]; exact hrow
      have hO := NatS.old (Row.seg (S := fun b => b = gt) hrow1 rfl (htd.take (n + 1)) 0 (n + 1) (n + 2) rfl (by rw [List.length_take]; omega) (by omega) (by omega) (by omega))
      have hO0 := NatS.old (Row.seg (S := fun b => b = gt) hrow2 rfl (htd.take n) 0 n (n + 2) rfl (by rw [List.length_take]; omega) (by omega) (by omega) (by omega))
      have hMn := RawN.old (num_raw (NumN.below (show NumN.rep _ w m [.slice MA n mcap] from ⟨ms, hms, hok.canon, hok.val⟩) hB))
      have d0 := (hB.cell (p := ⟨g, 0, none⟩) hg).trans c0
      obtain ⟨TT, hTT⟩ : ∃ TT, TT = Pl.val B64 (ts.take (n + 1)) := ⟨_, rfl⟩
      rw [← hTT] at hsmall hQ hTn
      have Hml' := Hml
      have HTT := hid hTT
      have HTn := hid hTn
      have HQ := hid hQ
      have Htl := hid htl
      clear hQ hTn hTT hrow1 hrow2 hsp0 hsp1 htl
      by_cases hless : TT < m
      · have hPl : Pl.cmp (Pl.val B64 (ts.take (n + 1))) m = -1 := by rw [← HTT.out]; exact Pl.cmp_lt hless
        have hPl' := hid hPl
        clear hPl
        go_wp2_with fail
        refine (cmp_calls (raw_of hO) hMn).mono ?_
        rintro e w1 ⟨rfl, hst⟩
        rw [hPl'.out]
        have hB1 := still_below hB hst
        have hO1 := hst.rep _ hO0
        have hval : Pl.val B64 (ts.take n) = A * D * Pl.rinv m n % m := by
          have h1 := HTn.out
          have h0 : Pl.val B64 (ts.take n) = TT := by
            rcases Nat.eq_zero_or_pos tn with h | h
            · rw [h] at h1; omega
            · have : B64 ^ n * 1 ≤ B64 ^ n * tn := Nat.mul_le_mul_left _ h
              omega
          rw [h0]
          exact Pl.mont_rest hok.odd (by have := hok.big; omega) hless (Pl.mont_cong HQ.out)
        have Hval := hid hval
        have hlen : (ts.take n).length = n := by rw [List.length_take]; have := Htl.out; omega
        have Hlen := hid hlen
        clear hval hst hlen
        go_wp2_with fail
        refine (wide_calls (ModP.below hM0 hB1) hO1 n hn (by rw [Hlen.out]; omega)).mono ?_
        rintro e w2 ⟨⟨u, rfl, hu⟩, hB2⟩
        rw [Hval.out] at hu
        go_wp2_with fail
        go_ret
        exact ⟨⟨_, rfl, (WideN n).mono hu (Fresh.mono hB1.size (Nat.le_refl _)) (Same.refl _ _)⟩, below_trans hB1 hB2⟩
      · have hPl : 0 ≤ Pl.cmp (Pl.val B64 (ts.take (n + 1))) m := by rw [← HTT.out]; have := @Pl.cmp_neg TT m; omega
        obtain ⟨cv, hcv⟩ : ∃ cv, cv = Pl.cmp (Pl.val B64 (ts.take (n + 1))) m := ⟨_, rfl⟩
        rw [← hcv] at hPl
        have Hcv := hid hcv
        clear hcv
        go_wp2_with fail
        refine (cmp_calls (raw_of hO) hMn).mono ?_
        rintro e w1 ⟨rfl, hst⟩
        rw [← Hcv.out]
        have hB1 := still_below hB hst
        have hrow1 := hst.row hrow
        have hms1 := (Rep.num .u64 B64).sl.below hms hB1
        clear hst hO hO0 hMn d0
        go_wp2_with fail
        go_loopw [160, 16] (fun jv cv wr => ∃ (j c : Nat) (us : List Nat), jv = .int .i64 (j : Int) ∧ cv = .int .u64 (c : Int) ∧ j ≤ n ∧ c ≤ 1 ∧ us.length = n + 2 ∧ Pl.Dig B64 us ∧ Row wr gt 65 (nums .u64 us)
          ∧ Hid (Pl.val B64 (us.take n) + Pl.val B64 (ms.take j) = Pl.val B64 (ts.take n) + B64 ^ j * c) ∧ Below w.heap.size w wr) (fun jv _ _ => n - (intOf jv).toNat)
        case atStart => exact ⟨0, 0, ts, rfl, rfl, by omega, by omega, Htl.out, htd, hrow1, hid (by simp [Pl.val]), hB1⟩
        case round =>
          clear hrow1 hB1 hms1 hrow hB
          obtain ⟨j, c, us, rfl, rfl, hj, hc, hul, hud, hrow, hinv1, hB⟩ := hrel
          by_cases hlj : j < n
          · have hjm : j < ms.length := by have := Hml.out; omega
            have hju : j < us.length := by omega
            have d0 := (hB.cell (p := ⟨g, 0, none⟩) hg).trans c0
            obtain ⟨bm, om, rfl, _, hmj, hmjb⟩ := num_at ((Rep.num .u64 B64).sl.below hms hB) j hjm
            have htj := hrow.num (k := .u64) j hju
            have hfj := hrow.frozen j
            have htb := hud.at j hju
            obtain ⟨mj, hmje⟩ : ∃ x, x = ms[j] := ⟨_, rfl⟩
            obtain ⟨t, ht⟩ : ∃ t, t = us[j] := ⟨_, rfl⟩
            rw [← hmje] at hmj hmjb
            rw [← ht] at htj htb
            have hs := sub_parts htb hmjb hc
            have hc2 := subHi_le t mj c
            obtain ⟨L2, hL2⟩ : ∃ L, L = subLo t mj c := ⟨_, rfl⟩
            obtain ⟨H2, hH2⟩ : ∃ H, H = subHi t mj c := ⟨_, rfl⟩
            have hsub : ∀ W : World, (callFunc 66 #[.int .u64 (t : Int), .int .u64 (mj : Int), .int .u64 (c : Int)]).run Try.prog W = .ok (.value (.tuple #[.int .u64 (L2 : Int), .int .u64 (H2 : Int)])) W := fun W => by
              rw [hL2, hH2]; exact sub64_run t mj c hc W
            rw [← hL2, ← hH2] at hs
            rw [← hH2] at hc2
            have hLb2 : L2 < B64 := by rw [hL2]; exact subLo_lt _ _ _
            have hinv2 := hid (Pl.mont_off (B := B64) hlj (by omega) hjm hmje.symm (by rw [hs, ht]) hinv1.out)
            have hrow2 := hrow.setNum (k := .u64) j L2
            have hud2 := hud.set j hLb2
            have hB2 := below_setCell hB (p := ⟨gt, j, none⟩) hgt2 (.int .u64 (L2 : Int))
            have hj0 : (0 : Int) ≤ (j : Int) := by omega
            have hj1 : (j : Int) < (n : Int) := by omega
            have hj2 : (j : Int) < (n : Int) + 1 := by omega
            have Hul := hid hul
            clear hmje ht hL2 hH2 hs hinv1 hrow hB hul
            go_upto_region 30 with (fail)
            go_region
            all_goals
              go_wp2_with fail
              go_roundw
              case rel => exact ⟨j + 1, H2, us.set j L2, by go_num, rfl, by omega, hc2, by rw [List.length_set]; exact Hul.out, hud2, hrow2, hinv2, hB2.drew⟩
              case measure => simp [intOf]; omega
          · obtain rfl : n = j := by omega
            have hP := Pl.val_lt (hud.take n)
            rw [List.length_take, Nat.min_eq_left (by omega)] at hP
            have h1 := hinv1.out
            rw [List.take_of_length_le (l := ms) (by have := Hml.out; omega), hok.val] at h1
            have hPe := Pl.mont_offEnd hP (by omega) hmR (by omega) HTn.out h1
            have hval : Pl.val B64 (us.take n) = A * D * Pl.rinv m n % m :=
              Pl.mont_rest hok.odd (by have := hok.big; omega) (by omega) (Pl.mont_congSub (T := TT) (by omega) HQ.out)
            have hsp0 : us = [] ++ us.take n ++ us.drop n := by rw [List.nil_append, List.take_append_drop]
            have hrow2 : Row wr gt 65 (nums .u64 ([] ++ us.take n ++ us.drop n)) := by rw [← hsp0]; exact hrow
            have hO0 := NatS.old (Row.seg (S := fun b => b = gt) hrow2 rfl (hud.take n) 0 n (n + 2) rfl (by rw [List.length_take]; omega) (by omega) (by omega) (by omega))
            have hlen : (us.take n).length = n := by rw [List.length_take]; omega
            have Hval := hid hval
            have Hlen := hid hlen
            clear hval hlen hsp0 hrow2 hPe h1 hinv1 hul
            go_wp2_with fail
            refine (wide_calls (ModP.below hM0 hB) hO0 n hn (by rw [Hlen.out]; omega)).mono ?_
            rintro e w2 ⟨⟨u, rfl, hu⟩, hB2⟩
            rw [Hval.out] at hu
            go_wp2_with fail
            go_ret
            exact ⟨⟨_, rfl, (WideN n).mono hu (Fresh.mono hB.size (Nat.le_refl _)) (Same.refl _ _)⟩, below_trans hB hB2⟩

end Go.Proofs.Ytphbacggmhjmgaa

/- The layer mont, fourth part: sums, differences, products. -/
namespace Go.Proofs.Ytphbacggmhjmgaa
open Go.RowKit

theorem limbs_mono {a b : Nat} (h : a < b) : limbs a ≤ limbs b := limbs_le_iff.2 (Nat.lt_trans h (limbs_le_iff.1 (Nat.le_refl _)))
theorem wide_num {w : World} {S T : Nat → Prop} {m x n : Nat} {v va : Value} (hn : Hid (n = limbs m)) (hM : ModP.rep S w m [v]) (ha : NumN.rep T w x [va]) (hx : x < m) :
    Calls Try.prog 68 #[v, va] w fun e w' => (∃ u, e = .returned u ∧ (WideN n).rep (Fresh w w') w' x [u]) ∧ Below w.heap.size w w' := by
  obtain ⟨xs, hxs, hc, rfl⟩ := ha
  have := canon_limbs (num_dig hxs) hc
  have := limbs_mono hx
  exact wide_calls hM hxs n hn (by rw [hn.out]; omega)
theorem wide_raw {S : Nat → Prop} {w : World} {n x : Nat} {cs : List Value} (h : (WideN n).rep S w x cs) : RawN.rep S w x cs := by
  obtain ⟨xs, h1, _, h2⟩ := h; exact ⟨xs, h1, h2⟩
theorem below_drew (w : World) : Below w.heap.size w w.drew := ⟨rfl, rfl, rfl, Nat.le_refl _, fun _ _ => rfl⟩

def modAddE (m a b : Nat) : Except Nat Nat := if B64 ^ 64 ≤ a ∨ B64 ^ 64 ≤ b then .error 2 else .ok ((a + b) % m)
def modSubE (m a b : Nat) : Except Nat Nat := if B64 ^ 64 ≤ a ∨ B64 ^ 64 ≤ b then .error 2 else .ok ((a % m + m - b % m) % m)
def modMulE (m a b : Nat) : Except Nat Nat := if B64 ^ 64 ≤ a ∨ B64 ^ 64 ≤ b then .error 2 else .ok (a * b % m)

theorem numE_long {S : Nat → Prop} {w : World} : NumE S w (.returned (.tuple #[.slice none 0 0, .iface 38 (.int .i64 2)])) (.error 2) := rfl

theorem mod_fact {S : Nat → Prop} {w : World} {m : Nat} {v : Value} (h : ModP.rep S w m [v]) : m < B64 ^ 32 ∧ 3 ≤ m ∧ m % 2 = 1 := by
  obtain ⟨g, A, cap, inv, tv, ms, rfl, hS, c0, c1, c2, hms, hinv, htv, hcap, hcm, hpos, hok⟩ := mod_open h
  exact ⟨mod_lt (num_dig hms) hok, hok.big, hok.odd⟩
theorem B32_2 : 2 * B64 ^ 32 < B64 ^ 64 := by
  have h : B64 ^ 64 = B64 ^ 32 * B64 ^ 32 := by rw [← Nat.pow_add]
  have h2 : B64 ≤ B64 ^ 32 := Nat.le_self_pow (by omega) _
  rw [h]
  exact Nat.mul_lt_mul_of_pos_right (Nat.lt_of_lt_of_le (by unfold B64; omega) h2) (Nat.pow_pos B64_pos)
theorem B32_mul {a b : Nat} (ha : a < B64 ^ 32) (hb : b < B64 ^ 32) : a * b < B64 ^ 64 := by
  have h : B64 ^ 64 = B64 ^ 32 * B64 ^ 32 := by rw [← Nat.pow_add]
  rw [h]; exact Nat.mul_lt_mul'' ha hb

theorem mod_add_sub {X Y m : Nat} (hX : X < m) (hY : Y < m) (h : ¬ X + Y < m) : (X + Y) % m = X + Y - m := by
  rw [Nat.mod_eq_sub_mod (by omega), Nat.mod_eq_of_lt (by omega)]

set_option maxHeartbeats 1000000 in
theorem madd_calls {w : World} {S T : Nat → Prop} {m a b : Nat} {v va vb : Value} (hM : ModP.rep S w m [v]) (ha : RawN.rep T w a [va]) (hb : RawN.rep T w b [vb]) :
    Calls Try.prog 29 #[v, va, vb] w fun e w' => NumE (Fresh w w') w' e (modAddE m a b) ∧ Below w.heap.size w w' := by
  by_cases hl : B64 ^ 64 ≤ a ∨ B64 ^ 64 ≤ b
  · rw [show modAddE m a b = .error 2 by unfold modAddE; rw [if_pos hl]]
    go_enter Try.func29, Try.ntmps29
    go_wp2_with fail
    refine (pair_long hM ha hb hl).mono ?_
    rintro e w1 ⟨rfl, hb1⟩
    go_wp2
    go_ret2
    exact ⟨rfl, hb1⟩
  · rw [show modAddE m a b = .ok ((a + b) % m) by unfold modAddE; rw [if_neg hl]]
    obtain ⟨hm32, hm3, _⟩ := mod_fact hM
    have hle := B32_2
    have hxm := Nat.mod_lt a (show 0 < m by omega)
    have hym := Nat.mod_lt b (show 0 < m by omega)
    have hsum : addE (a % m) (b % m) = .ok (a % m + b % m) := by unfold addE; rw [if_neg (by omega)]
    have Hsum := hid hsum
    clear hsum
    go_enter Try.func29, Try.ntmps29
    go_wp2_with fail
    refine (pair_ok hM ha hb (by omega) (by omega)).mono ?_
    rintro e w1 ⟨⟨x, y, rfl, hx, hy⟩, hb1⟩
    go_wp2_with fail
    refine (add_calls (num_raw hx) (num_raw hy)).mono ?_
    rintro e w2 ⟨he, hb2⟩
    rw [Hsum.out] at he
    obtain ⟨s, rfl, hs⟩ := he
    rw [errV_zero]
    have hb2' := below_trans hb1 hb2
    have hM2 := ModP.old (ModP.below hM hb2')
    obtain ⟨g, A, cap, inv, tv, ms, rfl, hS, c0, c1, c2, hms, hinv, htv, hcap, hcm, hpos, hok⟩ := mod_open hM2
    have hmn := num_raw (mod_num hms hok)
    have hs2 := NumN.old hs
    have hm0 := hok.big
    by_cases hless : a % m + b % m < m
    · have hPl : Pl.cmp (a % m + b % m) m = -1 := Pl.cmp_lt hless
      have hres : a % m + b % m = (a + b) % m := by rw [Nat.add_mod, Nat.mod_eq_of_lt hless]
      have HPl := hid hPl
      have Hres := hid hres
      clear hPl hres
      go_wp2_with fail
      refine (cmp_calls (num_raw hs2) hmn).mono ?_
      rintro e w3 ⟨rfl, hst⟩
      rw [HPl.out]
      have hb3 := below_trans hb2' hst.below
      have hs3 := hst.rep _ hs
      have hsz := hst.size
      rw [Hres.out] at hs3
      go_wp2
      go_ret2
      exact ⟨⟨_, rfl, NumN.mono hs3 (Fresh.mono hb1.size (by omega)) (Same.refl _ _)⟩, hb3⟩
    · have hPl : 0 ≤ Pl.cmp (a % m + b % m) m := by have := @Pl.cmp_neg (a % m + b % m) m; omega
      have hres : subE (a % m + b % m) m = .ok ((a + b) % m) := by
        unfold subE
        rw [if_neg (by omega), if_neg hless, Nat.add_mod, mod_add_sub hxm hym hless]
      obtain ⟨cv, hcv⟩ : ∃ cv, cv = Pl.cmp (a % m + b % m) m := ⟨_, rfl⟩
      rw [← hcv] at hPl
      have Hcv := hid hcv
      have Hres := hid hres
      clear hcv hres
      go_wp2_with fail
      refine (cmp_calls (num_raw hs2) hmn).mono ?_
      rintro e w3 ⟨rfl, hst⟩
      rw [← Hcv.out]
      have hb3 := below_trans hb2' hst.below
      have hs3 := hst.rep _ hs2
      have hmn3 := hst.rep _ hmn
      have k0 := (hst.cell ⟨g, 0, none⟩).trans c0
      go_wp2_with fail
      refine (sub_calls (num_raw hs3) hmn3).mono ?_
      rintro e w4 ⟨he, hb4⟩
      rw [Hres.out] at he
      obtain ⟨r, rfl, hr⟩ := he
      rw [errV_zero]
      go_wp2
      go_ret2
      exact ⟨⟨_, rfl, NumN.mono hr (Fresh.mono hb3.size (Nat.le_refl _)) (Same.refl _ _)⟩, below_trans hb3 hb4⟩

set_option maxHeartbeats 1000000 in
theorem msub_calls {w : World} {S T : Nat → Prop} {m a b : Nat} {v va vb : Value} (hM : ModP.rep S w m [v]) (ha : RawN.rep T w a [va]) (hb : RawN.rep T w b [vb]) :
    Calls Try.prog 81 #[v, va, vb] w fun e w' => NumE (Fresh w w') w' e (modSubE m a b) ∧ Below w.heap.size w w' := by
  by_cases hl : B64 ^ 64 ≤ a ∨ B64 ^ 64 ≤ b
  · rw [show modSubE m a b = .error 2 by unfold modSubE; rw [if_pos hl]]
    go_enter Try.func81, Try.ntmps81
    go_wp2_with fail
    refine (pair_long hM ha hb hl).mono ?_
    rintro e w1 ⟨rfl, hb1⟩
    go_wp2
    go_ret2
    exact ⟨rfl, hb1⟩
  · rw [show modSubE m a b = .ok ((a % m + m - b % m) % m) by unfold modSubE; rw [if_neg hl]]
    obtain ⟨hm32, hm3, _⟩ := mod_fact hM
    have hle := B32_2
    have hxm := Nat.mod_lt a (show 0 < m by omega)
    have hym := Nat.mod_lt b (show 0 < m by omega)
    obtain ⟨X, hX⟩ : ∃ X, X = a % m := ⟨_, rfl⟩
    obtain ⟨Y, hY⟩ : ∃ Y, Y = b % m := ⟨_, rfl⟩
    rw [← hX] at hxm ⊢
    rw [← hY] at hym ⊢
    have HX := hid hX
    have HY := hid hY
    clear hX hY
    go_enter Try.func81, Try.ntmps81
    go_wp2_with fail
    refine (pair_ok hM ha hb (by omega) (by omega)).mono ?_
    rintro e w1 ⟨⟨x, y, rfl, hx, hy⟩, hb1⟩
    rw [← HX.out] at hx
    rw [← HY.out] at hy
    have hM1 := ModP.old (ModP.below hM hb1)
    obtain ⟨g, A, cap, inv, tv, ms, rfl, hS, c0, c1, c2, hms, hinv, htv, hcap, hcm, hpos, hok⟩ := mod_open hM1
    have hmn := num_raw (mod_num hms hok)
    have hx1 := num_raw (NumN.old hx)
    have hy1 := num_raw (NumN.old hy)
    by_cases hless : X < Y
    · have hPl : Pl.cmp X Y = -1 := Pl.cmp_lt hless
      have hsum : addE X m = .ok (X + m) := by unfold addE; rw [if_neg (by omega)]
      have hres : subE (X + m) Y = .ok ((X + m - Y) % m) := by
        unfold subE
        rw [if_neg (by omega), if_neg (by omega), Nat.mod_eq_of_lt (by omega)]
      have HPl := hid hPl
      have Hsum := hid hsum
      have Hres := hid hres
      clear hPl hsum hres
      go_wp2_with fail
      refine (cmp_calls hx1 hy1).mono ?_
      rintro e w2 ⟨rfl, hst⟩
      rw [HPl.out]
      have hb2 := below_trans hb1 hst.below
      have hx2 := hst.rep _ hx1
      have hy2 := hst.rep _ hy1
      have hmn2 := hst.rep _ hmn
      have k0 := (hst.cell ⟨g, 0, none⟩).trans c0
      go_wp2_with fail
      refine (add_calls hx2 hmn2).mono ?_
      rintro e w3 ⟨he, hb3⟩
      rw [Hsum.out] at he
      obtain ⟨s, rfl, hs⟩ := he
      rw [errV_zero]
      have hb3' := below_trans hb2 hb3
      have hs3 := num_raw (NumN.old hs)
      have hy3 := RawN.old (RawN.below hy2 hb3)
      go_wp2_with fail
      refine (sub_calls hs3 hy3).mono ?_
      rintro e w4 ⟨he, hb4⟩
      rw [Hres.out] at he
      obtain ⟨r, rfl, hr⟩ := he
      rw [errV_zero]
      go_wp2
      go_ret2
      exact ⟨⟨_, rfl, NumN.mono hr (Fresh.mono hb3'.size (Nat.le_refl _)) (Same.refl _ _)⟩, below_trans hb3' hb4⟩
    · have hPl : 0 ≤ Pl.cmp X Y := by have := @Pl.cmp_neg X Y; omega
      have hres : subE X Y = .ok ((X + m - Y) % m) := by
        unfold subE
        rw [if_neg (by omega), if_neg (by omega), show X + m - Y = (X - Y) + m by omega, Nat.add_mod_right, Nat.mod_eq_of_lt (by omega)]
      obtain ⟨cv, hcv⟩ : ∃ cv, cv = Pl.cmp X Y := ⟨_, rfl⟩
      rw [← hcv] at hPl
      have Hcv := hid hcv
      have Hres := hid hres
      clear hcv hres
      go_wp2_with fail
      refine (cmp_calls hx1 hy1).mono ?_
      rintro e w2 ⟨rfl, hst⟩
      rw [← Hcv.out]
      have hb2 := below_trans hb1 hst.below
      have hx2 := hst.rep _ hx1
      have hy2 := hst.rep _ hy1
      go_wp2_with fail
      refine (sub_calls hx2 hy2).mono ?_
      rintro e w4 ⟨he, hb4⟩
      rw [Hres.out] at he
      obtain ⟨r, rfl, hr⟩ := he
      rw [errV_zero]
      go_wp2
      go_ret2
      exact ⟨⟨_, rfl, NumN.mono hr (Fresh.mono hb2.size (Nat.le_refl _)) (Same.refl _ _)⟩, below_trans hb2 hb4⟩

end Go.Proofs.Ytphbacggmhjmgaa

/- The layer mont, fifth part: a product's rest; what is made. -/
namespace Go.Proofs.Ytphbacggmhjmgaa
open Go.RowKit

theorem rep_of_drew {α : Type} (r : Rep α) {S : Nat → Prop} {w : World} {x : α} {cs : List Value} (h : r.rep S w x cs) (W : World) (hW : Below w.heap.size w W) : r.rep S W x cs := r.below h hW

set_option maxHeartbeats 2000000 in
theorem mmul_calls {w : World} {S T : Nat → Prop} {m a b : Nat} {v va vb : Value} (hM : ModP.rep S w m [v]) (ha : RawN.rep T w a [va]) (hb : RawN.rep T w b [vb]) :
    Calls Try.prog 57 #[v, va, vb] w fun e w' => NumE (Fresh w w') w' e (modMulE m a b) ∧ Below w.heap.size w w' := by
  by_cases hl : B64 ^ 64 ≤ a ∨ B64 ^ 64 ≤ b
  · rw [show modMulE m a b = .error 2 by unfold modMulE; rw [if_pos hl]]
    go_enter Try.func57, Try.ntmps57
    go_wp2_with fail
    refine (pair_long hM ha hb hl).mono ?_
    rintro e w1 ⟨rfl, hb1⟩
    go_wp2
    go_ret2
    exact ⟨rfl, hb1⟩
  · rw [show modMulE m a b = .ok (a * b % m) by unfold modMulE; rw [if_neg hl]]
    go_enter Try.func57, Try.ntmps57
    go_wp2_with fail
    refine (pair_ok hM ha hb (by omega) (by omega)).mono ?_
    rintro e w1 ⟨⟨x, y, rfl, hx, hy⟩, hb1⟩
    have hM1 := ModP.old (ModP.below hM hb1)
    obtain ⟨g, A, cap, inv, tv, ms, rfl, hg, c0, c1, c2, hms, hinv, htv, hcap, hcm, hpos, hok⟩ := mod_open hM1
    have hm0 := hok.big
    have hxm := Nat.mod_lt a (show 0 < m by omega)
    have hym := Nat.mod_lt b (show 0 < m by omega)
    have htm := Nat.mod_lt (B64 ^ ms.length * B64 ^ ms.length) (show 0 < m by omega)
    have hres := Pl.mont_all (R := B64 ^ ms.length) (Pl.rinv_spec (n := ms.length) hok.odd (by omega)) a b
    have hn : Hid (ms.length = limbs m) := mod_limbs (num_dig hms) hok
    obtain ⟨n, hnn⟩ : ∃ n, n = ms.length := ⟨_, rfl⟩
    rw [← hnn] at hn htv htm hres
    obtain ⟨X, hX⟩ : ∃ X, X = a % m := ⟨_, rfl⟩
    obtain ⟨Y, hY⟩ : ∃ Y, Y = b % m := ⟨_, rfl⟩
    obtain ⟨Z, hZ⟩ : ∃ Z, Z = B64 ^ n * B64 ^ n % m := ⟨_, rfl⟩
    rw [← hX, ← hY, ← hZ] at hres
    rw [← hX] at hx hxm
    rw [← hY] at hy hym
    rw [← hZ] at htv htm
    have hM1' := rep_drew _ hM1
    have hx1 := rep_drew _ hx
    have hy1 := rep_drew _ hy
    have ht1 := rep_drew _ htv
    have hp1 := Nat.mod_lt (X * Z * Pl.rinv m n) (show 0 < m by omega)
    have hgd : g < w1.drew.heap.size := hg
    have Hres := hid hres
    clear hX hY hZ hnn hres hM hM1 hx hy htv
    go_wp2_with fail
    go_region_held3 (fun w' => w'.cell? ⟨g, 2, none⟩ = some tv) (first | exact c2 | exact k2 | exact k3 | exact k4 | exact k5 | exact k6 | exact k7)
      (first
      | (go_at_call 68
         with_reducible refine (wide_num hn hM1' hx1 hxm).mono ?_
         rintro e w2 ⟨⟨u2, rfl, hu2⟩, hb2⟩
         have k2 := (hb2.cell (p := ⟨g, 2, none⟩) hgd).trans c2)
      | (go_at_call 68
         with_reducible refine (wide_num hn (ModP.below hM1' hb2) (NumN.below ht1 hb2) htm).mono ?_
         rintro e w3 ⟨⟨u3, rfl, hu3⟩, hb3⟩
         have hb3' := below_trans hb2 hb3
         have k3 := (hb3'.cell (p := ⟨g, 2, none⟩) hgd).trans c2)
      | (go_at_call 69
         with_reducible refine (product_calls n hn (ModP.below hM1' hb3') ((WideN n).old ((WideN n).below hu2 hb3)) ((WideN n).old hu3) hxm).mono ?_
         rintro e w4 ⟨⟨u4, rfl, hu4⟩, hb4⟩
         have hb4' := below_trans hb3' hb4
         have k4 := (hb4'.cell (p := ⟨g, 2, none⟩) hgd).trans c2)
      | (go_at_call 68
         with_reducible refine (wide_num hn (ModP.below hM1' hb4') (NumN.below hy1 hb4') hym).mono ?_
         rintro e w5 ⟨⟨u5, rfl, hu5⟩, hb5⟩
         have hb5' := below_trans hb4' hb5
         have k5 := (hb5'.cell (p := ⟨g, 2, none⟩) hgd).trans c2)
      | (go_at_call 69
         with_reducible refine (product_calls n hn (ModP.below hM1' hb5') ((WideN n).old ((WideN n).below hu4 hb5)) ((WideN n).old hu5) hp1).mono ?_
         rintro e w6 ⟨⟨u6, rfl, hu6⟩, hb6⟩
         have hb6' := below_trans hb5' hb6
         have k6 := (hb6'.cell (p := ⟨g, 2, none⟩) hgd).trans c2)
      | (go_at_call 39
         with_reducible refine (norm_calls (wide_raw hu6)).mono ?_
         rintro e w7 ⟨⟨u7, rfl, hu7⟩, hb7⟩
         have hb7' := below_trans hb6' hb7
         have k7 := (hb7'.cell (p := ⟨g, 2, none⟩) hgd).trans c2)
      | fail)
    rw [Hres.out] at hu7
    go_wp2_with fail
    go_ret2
    have hB : Below w.heap.size w w7 := below_trans (below_trans hb1 (below_drew w1)) hb7'
    exact ⟨⟨_, rfl, NumN.mono hu7 (Fresh.mono (by have := (below_trans (below_trans hb1 (below_drew w1)) hb6').size; omega) (Nat.le_refl _)) (Same.refl _ _)⟩, hB⟩

end Go.Proofs.Ytphbacggmhjmgaa
