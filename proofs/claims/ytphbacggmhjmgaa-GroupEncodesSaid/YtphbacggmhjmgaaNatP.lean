/- The layer nat, first part: sums with carries, numbers in memory, trim, Clone, Norm, Cmp, Add, Sub, Mul. -/
import Derived.Test.YtphbacggmhjmgaaProg
import Derived.Test.YtphbacggmhjmgaaMem
import Derived.Laws.Externs
import Derived.Lib.Mul64
import Derived.Laws.Bits64b
import Derived.Deep.QuietTactic

/- math/bits: a sum and a difference with a carry. -/
namespace Go.Proofs.Ytphbacggmhjmgaa
open Go.RowKit

/-- 2 to the 64 -/
def B64 : Nat := 18446744073709551616
theorem B64_pos : 0 < B64 := by decide
theorem B64_gt : 1 < B64 := by decide

def addLo (x y c : Nat) : Nat := (x + y + c) % B64
def addHi (x y c : Nat) : Nat := (x + y + c) / B64
theorem add_parts (x y c : Nat) : addLo x y c + B64 * addHi x y c = x + y + c := Nat.mod_add_div _ _
theorem addLo_lt (x y c : Nat) : addLo x y c < B64 := Nat.mod_lt _ B64_pos
theorem addHi_le {x y c : Nat} (hx : x < B64) (hy : y < B64) (hc : c ≤ 1) : addHi x y c ≤ 1 := by
  unfold addHi B64 at *; omega

def subLo (x y c : Nat) : Nat := (x + B64 - y - c) % B64
def subHi (x y c : Nat) : Nat := if x < y + c then 1 else 0
theorem sub_parts {x y c : Nat} (hx : x < B64) (hy : y < B64) (hc : c ≤ 1) : subLo x y c + y + c = x + B64 * subHi x y c := by
  unfold subLo subHi B64 at *; split <;> omega
theorem subLo_lt (x y c : Nat) : subLo x y c < B64 := Nat.mod_lt _ B64_pos
theorem subHi_le (x y c : Nat) : subHi x y c ≤ 1 := by unfold subHi; split <;> omega

def sub64Entry : Array Value → Sem Value := fun args => do
  let (x, y, b) ← Extern.MathBitsCarry.three "Sub64" args
  pure (Extern.MathBitsCarry.pair ((x + Extern.MathBitsCarry.m64 - y - b) % Extern.MathBitsCarry.m64) (if x < y + b then 1 else 0))

theorem run_sub64 {P : Program} (x y b : Nat) (hb : b ≤ 1) (w : World) :
    (sub64Entry #[.int .u64 x, .int .u64 y, .int .u64 b]).run P w = .ok (.tuple #[.int .u64 (subLo x y b : Int), .int .u64 (subHi x y b : Int)]) w := by
  have : b = 0 ∨ b = 1 := by omega
  rcases this with rfl | rfl <;> rfl
theorem run_add64' {P : Program} (x y b : Nat) (hb : b ≤ 1) (w : World) :
    (add64Entry #[.int .u64 x, .int .u64 y, .int .u64 b]).run P w = .ok (.tuple #[.int .u64 (addLo x y b : Int), .int .u64 (addHi x y b : Int)]) w := by
  have : b = 0 ∨ b = 1 := by omega
  rcases this with rfl | rfl <;> rfl

theorem add64_run (x y c : Nat) (hc : c ≤ 1) (w : World) :
    (callFunc 65 #[.int .u64 (x : Int), .int .u64 (y : Int), .int .u64 (c : Int)]).run Try.prog w = .ok (.value (.tuple #[.int .u64 (addLo x y c : Int), .int .u64 (addHi x y c : Int)])) w := by
  rw [run_callFunc_extern Try.func65 (by kernel_rfl) (by kernel_rfl) (by kernel_rfl) (e := add64Entry) (by kernel_rfl), run_add64' x y c hc]
  rfl
theorem sub64_run (x y c : Nat) (hc : c ≤ 1) (w : World) :
    (callFunc 66 #[.int .u64 (x : Int), .int .u64 (y : Int), .int .u64 (c : Int)]).run Try.prog w = .ok (.value (.tuple #[.int .u64 (subLo x y c : Int), .int .u64 (subHi x y c : Int)])) w := by
  rw [run_callFunc_extern Try.func66 (by kernel_rfl) (by kernel_rfl) (by kernel_rfl) (e := sub64Entry) (by kernel_rfl), run_sub64 x y c hc]
  rfl


def mulHi (x y : Nat) : Nat := x * y / B64
def mulLo (x y : Nat) : Nat := x * y % B64
theorem mul_parts (x y : Nat) : mulLo x y + B64 * mulHi x y = x * y := Nat.mod_add_div _ _
theorem mulLo_lt (x y : Nat) : mulLo x y < B64 := Nat.mod_lt _ B64_pos
theorem mulHi_le {x y : Nat} (hx : x < B64) (hy : y < B64) : mulHi x y + 2 ≤ B64 := by
  have h1 : x * y ≤ (B64 - 1) * (B64 - 1) := Nat.mul_le_mul (by omega) (by omega)
  have h2 := mul_parts x y
  unfold B64 at *
  omega

namespace Mul64
theorem maskN (a : Nat) (ha : a < 18446744073709551616) : bits .and .u64 (a : Int) 4294967295 = ((a % 4294967296 : Nat) : Int) := by
  have h := bits_and_u64_nat a 4294967295 ha (by omega)
  have e : a &&& 4294967295 = a % 4294967296 := Nat.and_two_pow_sub_one_eq_mod a 32
  rw [e] at h
  exact h
theorem divN (a : Nat) : (a : Int) / 4294967296 = ((a / 4294967296 : Nat) : Int) := by omega
theorem mulN (a b : Nat) : (a : Int) * (b : Int) = ((a * b : Nat) : Int) := (Int.natCast_mul a b).symm
theorem addN (a b : Nat) : (a : Int) + (b : Int) = ((a + b : Nat) : Int) := (Int.natCast_add a b).symm
theorem wrapN (a : Nat) (ha : a < 18446744073709551616) : IntKind.u64.wrap (a : Int) = (a : Int) := by rw [IntKind.wrap_u64]; omega
theorem wrapM (a : Nat) : IntKind.u64.wrap (a : Int) = ((a % 18446744073709551616 : Nat) : Int) := by rw [IntKind.wrap_u64]; omega
end Mul64

set_option maxHeartbeats 1000000 in
/-- math/bits.Mul64 (walked as the kit's own text over any program walks it) -/
theorem mul64_calls (x y : Nat) (hx : x < B64) (hy : y < B64) (w : World) :
    Calls Try.prog 86 #[.int .u64 (x : Int), .int .u64 (y : Int)] w fun e w' => e = .returned (.tuple #[.int .u64 (mulHi x y : Int), .int .u64 (mulLo x y : Int)]) ∧ w = w' := by
  unfold B64 at hx hy
  obtain ⟨bd, bt, bw, hhi⟩ := Lib.mul64_hi x y hx hy
  have ba := Lib.half_mul_le (a := x / 4294967296) (b := y / 4294967296) (by omega) (by omega)
  have bb := Lib.half_mul_le (a := x / 4294967296) (b := y % 4294967296) (by omega) (by omega)
  have bc := Lib.half_mul_le (a := x % 4294967296) (b := y / 4294967296) (by omega) (by omega)
  have ba' : x / 4294967296 * (y / 4294967296) < 18446744073709551616 := by omega
  have bb' : x / 4294967296 * (y % 4294967296) < 18446744073709551616 := by omega
  have bc' : x % 4294967296 * (y / 4294967296) < 18446744073709551616 := by omega
  have bh1 : x / 4294967296 * (y / 4294967296) + (x / 4294967296 * (y % 4294967296) + x % 4294967296 * (y % 4294967296) / 4294967296) / 4294967296 < 18446744073709551616 := by omega
  have bh : x / 4294967296 * (y / 4294967296) + (x / 4294967296 * (y % 4294967296) + x % 4294967296 * (y % 4294967296) / 4294967296) / 4294967296 + ((x / 4294967296 * (y % 4294967296) + x % 4294967296 * (y % 4294967296) / 4294967296) % 4294967296 + x % 4294967296 * (y / 4294967296)) / 4294967296 < 18446744073709551616 := by omega
  go_enter Try.func86, Try.ntmps86
  go_wp2
  simp only [Mul64.maskN x hx, Mul64.maskN y hy, Mul64.divN, Mul64.mulN, Mul64.addN, Mul64.wrapN _ bd, Mul64.wrapN _ bb', Mul64.wrapN _ bt, Mul64.maskN _ bt, Mul64.wrapN _ bc', Mul64.wrapN _ bw, Mul64.wrapN _ ba', Mul64.wrapN _ bh1, Mul64.wrapN _ bh, Mul64.wrapM (x * y)]
  rw [hhi]
  go_ret2
  exact ⟨rfl, rfl⟩

end Go.Proofs.Ytphbacggmhjmgaa

/- The layer nat, first part: what its smaller functions answer. -/
namespace Go.Proofs.Ytphbacggmhjmgaa
open Go.RowKit

/-- digits as they lie -/
abbrev NatS : Rep (List Nat) := (Rep.num .u64 B64).sl
/-- a number, however it is told -/
def RawN : Rep Nat := NatS.ex fun n xs => Pl.val B64 xs = n
/-- a number without noughts at its end -/
def NumN : Rep Nat := NatS.ex fun n xs => Pl.Canon xs ∧ Pl.val B64 xs = n

theorem num_raw {S : Nat → Prop} {w : World} {n : Nat} {cs : List Value} (h : NumN.rep S w n cs) : RawN.rep S w n cs := by
  obtain ⟨xs, h1, _, h2⟩ := h; exact ⟨xs, h1, h2⟩
theorem raw_of {S : Nat → Prop} {w : World} {xs : List Nat} {cs : List Value} (h : NatS.rep S w xs cs) : RawN.rep S w (Pl.val B64 xs) cs := ⟨xs, h, rfl⟩
theorem NumN.zero (S : Nat → Prop) (w : World) : NumN.rep S w 0 [.slice none 0 0] := ⟨[], sl_nil _ S w, Pl.canon_nil, rfl⟩

/-- an error: 0 is none -/
def errV (c : Nat) : Value := if c = 0 then .nilIface else .iface 38 (.int .i64 (c : Int))
theorem errV_zero : errV 0 = .nilIface := rfl

theorem info65 : (Try.prog.info? 65).map (fun i => (i.zero, i.size, i.bytes)) = some (some (.int .u64 0), 1, 8) := by kernel_rfl

theorem dec_at (xs : List Nat) (k : Nat) (hk : k < xs.length) : xs.getD k 0 = xs[k] := by
  simp [List.getD_eq_getElem?_getD, List.getElem?_eq_getElem hk]

set_option maxHeartbeats 400000 in
theorem trim_walk (w : World) (S : Nat → Prop) (A : Option Addr) (xs : List Nat) (cap : Nat) (h : NatS.rep S w xs [.slice A xs.length cap]) :
    Calls Try.prog 63 #[.slice A xs.length cap] w fun e w' => e = .returned (.slice A (Pl.trimN xs xs.length) cap) ∧ w = w' := by
  obtain ⟨_, hc, hm⟩ := sl_cap h
  go_enter Try.func63, Try.ntmps63
  go_wp2
  go_loop [3] (fun n => ∃ k : Nat, k ≤ xs.length ∧ n = .int .i64 k ∧ Pl.trimN xs xs.length = Pl.trimN xs k) (fun n => (intOf n).toNat)
  case atStart => exact ⟨_, Nat.le_refl _, rfl, rfl⟩
  case round =>
    obtain ⟨k, hk, rfl, ht⟩ := hrel
    have Ht := hid ht; clear ht
    cases k with
    | zero =>
      go_wp2
      go_ret
      exact ⟨by rw [Ht.out]; rfl, rfl⟩
    | succ k =>
      obtain ⟨b, o, rfl, _, hcell, _⟩ := num_at h k (by omega)
      have Hd := hid (dec_at xs k (by omega))
      by_cases hz : xs[k] = 0
      · have hz' : ((xs[k] : Int) == 0) = true := by simp [hz]
        have Hz := hid hz; clear hz
        go_wp2
        go_round
        case rel => exact ⟨k, by omega, rfl, by rw [Ht.out, Pl.trimN, Hd.out, if_pos Hz.out]⟩
        case measure => simp [intOf]
      · have hz' : ((xs[k] : Int) == 0) = false := by simp [hz]
        go_wp2
        go_ret
        exact ⟨by rw [Ht.out, Pl.trimN, Hd.out, if_neg hz]; rfl, rfl⟩

/-- trim: the same memory, without noughts at the end -/
theorem trim_calls {w : World} {S : Nat → Prop} {xs : List Nat} {v : Value} (h : NatS.rep S w xs [v]) :
    Calls Try.prog 63 #[v] w fun e w' => (∃ u, e = .returned u ∧ NatS.rep S w (Pl.trim xs) [u]) ∧ w = w' := by
  obtain ⟨A, cap, rfl, hc, hm⟩ := sl_open h
  refine (trim_walk w S A xs cap h).mono fun e w' ⟨he, hw⟩ => ⟨⟨_, he, ?_⟩, hw⟩
  have hle := Pl.trimN_le xs xs.length
  have := sl_cut h 0 (Pl.trimN xs xs.length) (Nat.zero_le _) hle A (fun _ b o e => by simpa using e) (Pl.trimN xs xs.length) cap rfl (by omega) hm
  simpa [Pl.trim] using this


set_option maxHeartbeats 400000 in
theorem clone_walk (w : World) (S : Nat → Prop) (A : Option Addr) (xs : List Nat) (cap : Nat) (h : NatS.rep S w xs [.slice A xs.length cap]) (hl : xs.length * 8 ≤ 140737488355328) :
    Calls Try.prog 59 #[.slice A xs.length cap] w fun e w' => (∃ u, e = .returned u ∧ Own (Rep.num .u64 B64) w.heap.size 65 (fun _ => False) w' xs u) ∧ Below w.heap.size w w' := by
  have hq := fun (w : World) => Lib.run_eql_slice_nil (P := Try.prog) w 24 65 A xs.length cap 0 0 Try.underlying24
  rcases A with _ | a
  · obtain rfl : xs = [] := by
      rcases Nat.eq_zero_or_pos xs.length with h0 | h0
      · exact List.eq_nil_of_length_eq_zero h0
      · obtain ⟨b, o, e, _⟩ := num_at h 0 h0; cases e
    clear h
    simp only [List.length_nil] at hq ⊢
    go_enter Try.func59, Try.ntmps59
    go_wp2
    go_ret
    exact ⟨⟨_, rfl, Own.nil _ _ _ _ _⟩, Below.refl _ _⟩
  · go_enter Try.func59, Try.ntmps59
    have hb := (Below.refl w.heap.size w).alloc (Nat.le_refl _) (.cells #[] 65)
    have h' := (Rep.num .u64 B64).sl.below h hb
    go_wp2_with (at_builtin; refine wpList_append_rep (r := Rep.num .u64 B64) rfl _ _ 24 65 (.int .u64 0) 8 rfl Try.underlying24 info65 rfl (by decide) (by decide) w.heap.size _ [] (S := fun b => b < w.heap.size) _ xs rfl rfl ?c1 ?c2 ?c3 ?c4 ?c5 ?_)
    case c1 => exact Own.lit _ _ _ _ _ [] #[] (Nat.le_refl _) rfl 0 rfl (by omega)
    case c2 => exact (Rep.num .u64 B64).sl.mono ((Rep.num .u64 B64).sl.old h) (fun _ hb => hb) (Same.of_below hb)
    case c3 => simpa using hl
    case c4 => exact hb.size
    case c5 =>
      intro b hlt
      exact ⟨Nat.lt_of_lt_of_le hlt hb.size, ne_own (by omega)⟩
    intro v' w1 hown hg _
    have hB1 := hb.grown hg hb.size (fun k hk => own_ge hk (Nat.le_refl _))
    clear hb hg
    go_wp2
    go_ret
    refine ⟨⟨_, rfl, ?_⟩, hB1⟩
    obtain ⟨cs, h1, h2⟩ := hown
    exact ⟨cs, h1, repL_num.2 (repL_num.1 h2)⟩


/-- slices.Clone of a number: new memory -/
theorem clone_calls {w : World} {S : Nat → Prop} {xs : List Nat} {v : Value} (h : NatS.rep S w xs [v]) :
    Calls Try.prog 59 #[v] w fun e w' => (∃ u, e = .returned u ∧ NatS.rep (Fresh w w') w' xs [u]) ∧ Below w.heap.size w w' := by
  obtain ⟨A, cap, rfl, hc, hm⟩ := sl_open h
  have hb := sl_bytes h
  refine (clone_walk w S A xs cap h hb).mono fun e w' ⟨⟨u, he, hu⟩, hw⟩ => ⟨⟨u, he, ?_⟩, hw⟩
  exact (hu.weaken (S' := Fresh w w') (Nat.le_refl _) (fun _ h => h.elim)).slFresh hb

set_option maxHeartbeats 400000 in
theorem norm_calls {w : World} {S : Nat → Prop} {n : Nat} {v : Value} (h : RawN.rep S w n [v]) :
    Calls Try.prog 39 #[v] w fun e w' => (∃ u, e = .returned u ∧ NumN.rep (Fresh w w') w' n [u]) ∧ Below w.heap.size w w' := by
  obtain ⟨xs, h, rfl⟩ := h
  go_enter Try.func39, Try.ntmps39
  go_wp2_with fail
  refine (trim_calls h).mono ?_
  rintro e w' ⟨⟨u, rfl, hu⟩, rfl⟩
  go_wp2_with fail
  refine (clone_calls hu).mono ?_
  rintro e w1 ⟨⟨u, rfl, hu⟩, hw⟩
  go_wp2
  go_ret
  exact ⟨⟨_, rfl, _, hu, Pl.trim_canon xs, Pl.trim_val B64 xs⟩, hw⟩

theorem ret_int {k : IntKind} {a b : Int} (h : a = b) : Ending.returned (.int k a) = .returned (.int k b) := by rw [h]

theorem rep_drewN {α : Type} (r : Rep α) {S : Nat → Prop} {w : World} {x : α} {cs : List Value} (h : r.rep S w x cs) (n : Nat) : r.rep S (w.drewN n) x cs := r.mono h (fun _ h => h) (fun _ _ => rfl)

set_option maxHeartbeats 1000000 in
theorem cmp_walk (w : World) (S : Nat → Prop) (xs ys : List Nat) (va vb : Value) (ha : NatS.rep S w xs [va]) (hb : NatS.rep S w ys [vb]) :
    Calls Try.prog 40 #[va, vb] w fun e w' => e = .returned (.int .i64 (Pl.cmp (Pl.val B64 xs) (Pl.val B64 ys))) ∧ ∃ n, w' = w.drewN n := by
  have ea := hid (Pl.trim_val B64 xs)
  have eb := hid (Pl.trim_val B64 ys)
  generalize Pl.val B64 xs = m at *
  generalize Pl.val B64 ys = n at *
  go_enter Try.func40, Try.ntmps40
  go_wp2_with fail
  refine (trim_calls ha).mono ?_
  rintro e w' ⟨⟨u, rfl, hu⟩, rfl⟩
  go_wp2_with fail
  refine (trim_calls hb).mono ?_
  rintro e w' ⟨⟨u', rfl, hu'⟩, rfl⟩
  have ca := Pl.trim_canon xs
  have cb := Pl.trim_canon ys
  generalize Pl.trim xs = p at *
  generalize Pl.trim ys = q at *
  have da := num_dig hu
  have db := num_dig hu'
  obtain ⟨A, c1, rfl, hc1, hm1⟩ := sl_open hu
  obtain ⟨A', c2, rfl, hc2, hm2⟩ := sl_open hu'
  rcases Nat.lt_trichotomy p.length q.length with hlt | heq | hgt
  · have hv := Pl.val_lt_of_len B64_pos da cb hlt
    rw [ea.out, eb.out] at hv
    have h1 : ((p.length : Int) == (q.length : Int)) = false := by simp; omega
    go_wp2
    go_ret
    exact ⟨ret_int (by unfold Pl.cmp; rw [if_pos hv]), 0, rfl⟩
  · have Heq := hid heq; clear heq
    have h1 : ((p.length : Int) == (q.length : Int)) = true := by have := Heq.out; simp; omega
    go_wp2
    go_loopw [5] (fun i wr => ∃ k : Nat, k ≤ p.length ∧ i = .int .i64 ((k : Int) - 1) ∧ Hid (Pl.val B64 (p.drop k) = Pl.val B64 (q.drop k)) ∧ ∃ n, wr = w.drewN n) (fun i _ => (intOf i + 1).toNat)
    case atStart => exact ⟨_, Nat.le_refl _, rfl, hid (by rw [List.drop_of_length_le (Nat.le_refl _), List.drop_of_length_le (by rw [Heq.out]; exact Nat.le_refl _)]), 0, rfl⟩
    case round =>
      obtain ⟨k, hk, rfl, hv, nn, rfl⟩ := hrel
      cases k with
      | zero =>
        have hv := hv.out
        rw [List.drop_zero, List.drop_zero, ea.out, eb.out] at hv
        subst hv
        go_wp2
        go_ret
        exact ⟨ret_int (by unfold Pl.cmp; rw [if_neg (by omega), if_neg (by omega)]), nn, rfl⟩
      | succ k =>
        have hk' : k < q.length := by have := Heq.out; omega
        obtain ⟨b, o, rfl, _, hcell, _⟩ := num_at hu k (by omega)
        obtain ⟨b', o', rfl, _, hcell', _⟩ := num_at hu' k (by omega)
        rw [show (((k + 1 : Nat) : Int) - 1) = (k : Int) by omega]
        have hi0 : (0 : Int) ≤ (k : Int) := by omega
        have hi1 : (k : Int) < (p.length : Int) := by omega
        have hi2 : (k : Int) < (q.length : Int) := by omega
        rcases Nat.lt_trichotomy p[k] q[k] with hlt | he | hgt
        · have hx := Pl.val_lt_at da k hk hk' hv.out hlt
          rw [ea.out, eb.out] at hx
          go_wp2_with fail
          go_quiet (fail)
          go_wp2
          go_ret
          exact ⟨ret_int (by unfold Pl.cmp; rw [if_pos hx]), _, by rw [World.drewN_drewN]⟩
        · have hle : p[k] ≤ q[k] := by omega
          have hge : q[k] ≤ p[k] := by omega
          have hx : Hid (Pl.val B64 (p.drop k) = Pl.val B64 (q.drop k)) := by
            show _ = _
            rw [Pl.val_drop B64 p k hk, Pl.val_drop B64 q k hk', hv.out, he]
          clear he hv
          go_wp2_with fail
          go_quiet (fail)
          go_wp2_with fail
          go_quiet (fail)
          go_wp2
          go_roundw
          case rel => exact ⟨k, by omega, by go_num, hx, _, rfl⟩
          case measure => simp [intOf]
        · have hx := Pl.val_lt_at db k hk' hk hv.out.symm hgt
          rw [ea.out, eb.out] at hx
          go_wp2_with fail
          go_quiet (fail)
          go_wp2_with fail
          go_quiet (fail)
          go_wp2
          go_ret
          exact ⟨ret_int (by unfold Pl.cmp; rw [if_neg (by omega), if_pos hx]), _, by rw [World.drewN_drewN, World.drewN_drewN]⟩
  · have hv := Pl.val_lt_of_len B64_pos db ca hgt
    rw [ea.out, eb.out] at hv
    have h1 : ((p.length : Int) == (q.length : Int)) = false := by simp; omega
    go_wp2
    go_ret
    exact ⟨ret_int (by unfold Pl.cmp; rw [if_neg (by omega), if_pos hv]), 0, rfl⟩


theorem below_drewN {w : World} (n : Nat) : Below w.heap.size w (w.drewN n) := ⟨rfl, rfl, rfl, Nat.le_refl _, fun _ _ => rfl⟩

/-- no block has turned -/
structure Still (w w' : World) : Prop where
  below : Below w.heap.size w w'
  heap : w'.heap = w.heap
theorem Still.drewN (w : World) (n : Nat) : Still w (w.drewN n) := ⟨below_drewN n, rfl⟩
theorem Still.refl (w : World) : Still w w := ⟨Below.refl _ _, rfl⟩
theorem Still.rep {w w' : World} (h : Still w w') {α : Type} (r : Rep α) {S : Nat → Prop} {x : α} {cs : List Value} (hr : r.rep S w x cs) : r.rep S w' x cs := r.mono hr (fun _ h => h) (fun b _ => by rw [h.heap])
theorem Still.row {w w' : World} (h : Still w w') {g : Nat} {e : TypeId} {cs : List Value} (hr : Row w g e cs) : Row w' g e cs := by unfold Row; rw [h.heap]; exact hr
theorem Still.cell {w w' : World} (h : Still w w') (a : Addr) : w'.cell? a = w.cell? a := World.cell?_of_block (by rw [h.heap])
theorem Still.frozen {w w' : World} (h : Still w w') (a : Addr) : w'.frozen? a = w.frozen? a := World.frozen?_of_block (by rw [h.heap])
theorem Still.trans {a b c : World} (h : Still a b) (k : Still b c) : Still a c := ⟨below_trans h.below k.below, k.heap.trans h.heap⟩
theorem Still.grown {w w' : World} (h : Still w w') (row : Option Nat) : w.grownBy w' row := grown_below h.below row
theorem Still.size {w w' : World} (h : Still w w') : w'.heap.size = w.heap.size := by rw [h.heap]

/-- nat.Cmp -/
theorem cmp_calls {w : World} {S : Nat → Prop} {m n : Nat} {va vb : Value} (ha : RawN.rep S w m [va]) (hb : RawN.rep S w n [vb]) :
    Calls Try.prog 40 #[va, vb] w fun e w' => e = .returned (.int .i64 (Pl.cmp m n)) ∧ Still w w' := by
  obtain ⟨xs, ha, rfl⟩ := ha
  obtain ⟨ys, hb, rfl⟩ := hb
  refine (cmp_walk w S xs ys va vb ha hb).mono fun e w' ⟨he, n, hw⟩ => ⟨he, ?_⟩
  subst hw
  exact Still.drewN w n

set_option maxHeartbeats 1000000 in
/-- what 'both' answers -/
def BothPost (S : Nat → Prop) (m n : Nat) (w : World) (e : Ending) : Prop :=
  if B64 ^ 64 ≤ m ∨ B64 ^ 64 ≤ n then e = .returned (.tuple #[.slice none 0 0, .slice none 0 0, errV 2])
  else ∃ u v, e = .returned (.tuple #[u, v, errV 0]) ∧ NumN.rep S w m [u] ∧ NumN.rep S w n [v]

theorem both_calls {w : World} {S : Nat → Prop} {m n : Nat} {va vb : Value} (ha : RawN.rep S w m [va]) (hb : RawN.rep S w n [vb]) :
    Calls Try.prog 64 #[va, vb] w fun e w' => BothPost S m n w e ∧ w = w' := by
  obtain ⟨xs, ha, ea⟩ := ha
  obtain ⟨ys, hb, eb⟩ := hb
  rw [← Pl.trim_val] at ea eb
  have Ea := hid ea
  have Eb := hid eb
  clear ea eb
  go_enter Try.func64, Try.ntmps64
  go_wp2_with fail
  refine (trim_calls ha).mono ?_
  rintro e w' ⟨⟨u, rfl, hu⟩, rfl⟩
  go_wp2_with fail
  refine (trim_calls hb).mono ?_
  rintro e w' ⟨⟨u', rfl, hu'⟩, rfl⟩
  have ca := Pl.trim_canon xs
  have cb := Pl.trim_canon ys
  generalize Pl.trim xs = p at *
  generalize Pl.trim ys = q at *
  have la := Pl.canon_len_le (n := 64) B64_gt (num_dig hu) ca
  have lb := Pl.canon_len_le (n := 64) B64_gt (num_dig hu') cb
  rw [Ea.out] at la
  rw [Eb.out] at lb
  have Pa : NumN.rep S w m [u] := ⟨p, hu, ca, Ea.out⟩
  have Pb : NumN.rep S w n [u'] := ⟨q, hu', cb, Eb.out⟩
  obtain ⟨A, c1, rfl, hc1, hm1⟩ := sl_open hu
  obtain ⟨A', c2, rfl, hc2, hm2⟩ := sl_open hu'
  have La := hid la
  have Lb := hid lb
  clear la lb
  by_cases h1 : p.length ≤ 64
  · by_cases h2 : q.length ≤ 64
    · go_wp2
      go_ret3
      have h1 := La.out.1 h1
      have h2 := Lb.out.1 h2
      exact ⟨by unfold BothPost; rw [if_neg (by omega)]; exact ⟨_, _, rfl, Pa, Pb⟩, rfl⟩
    · go_wp2
      go_ret3
      have h2 := (not_congr Lb.out).1 h2
      exact ⟨by unfold BothPost; rw [if_pos (by omega)]; rfl, rfl⟩
  · go_wp2
    go_ret3
    have h1 := (not_congr La.out).1 h1
    exact ⟨by unfold BothPost; rw [if_pos (by omega)]; rfl, rfl⟩


theorem both_ok {w : World} {S : Nat → Prop} {m n : Nat} {va vb : Value} (ha : RawN.rep S w m [va]) (hb : RawN.rep S w n [vb]) (hm : m < B64 ^ 64) (hn : n < B64 ^ 64) :
    Calls Try.prog 64 #[va, vb] w fun e w' => (∃ u v, e = .returned (.tuple #[u, v, .nilIface]) ∧ NumN.rep S w m [u] ∧ NumN.rep S w n [v]) ∧ w = w' := by
  refine (both_calls ha hb).mono fun e w' ⟨h, hw⟩ => ⟨?_, hw⟩
  unfold BothPost at h
  rwa [if_neg (by omega)] at h
theorem both_long {w : World} {S : Nat → Prop} {m n : Nat} {va vb : Value} (ha : RawN.rep S w m [va]) (hb : RawN.rep S w n [vb]) (hl : B64 ^ 64 ≤ m ∨ B64 ^ 64 ≤ n) :
    Calls Try.prog 64 #[va, vb] w fun e w' => e = .returned (.tuple #[.slice none 0 0, .slice none 0 0, .iface 38 (.int .i64 2)]) ∧ w = w' := by
  refine (both_calls ha hb).mono fun e w' ⟨h, hw⟩ => ⟨?_, hw⟩
  unfold BothPost at h
  rwa [if_pos hl] at h


/-- a number of one digit, written out -/
theorem lit1 (w : World) (x : Nat) (hx : x < B64) : NatS.rep (fun b => b = w.heap.size) (w.alloc (.cells #[.int .u64 (x : Int)] 65)) [x] [.slice (some ⟨w.heap.size, 0, none⟩) 1 1] :=
  (Row.new w 65 #[.int .u64 (x : Int)]).slNum (k := .u64) (xs := [x]) (S := fun b => b = w.heap.size) rfl (Pl.Dig.one hx) 1 (by simp) (by omega) (by simp)

end Go.Proofs.Ytphbacggmhjmgaa

/- The layer nat, second part: sums, differences, products. -/
namespace Go.Proofs.Ytphbacggmhjmgaa
open Go.RowKit

/-- what a function with an error answers: a number in the blocks of S, or an error alone -/
def NumE (S : Nat → Prop) (w : World) (e : Ending) : Except Nat Nat → Prop
  | .ok n => ∃ u, e = .returned (.tuple #[u, errV 0]) ∧ NumN.rep S w n [u]
  | .error c => e = .returned (.tuple #[.slice none 0 0, errV c])

/-- 'make' of digits -/
theorem run_make_u64 (m : Nat) (hm : m * 8 ≤ 281474976710656) (W : World) :
    (Instr.makeSlice 24 (.int .i64 (m : Int)) (.int .i64 (m : Int))).run Try.prog W = .ok (.slice (some ⟨W.heap.size, 0, none⟩) m m) (W.alloc (.cells (zerosOf (.int .u64 0) m) 65)) :=
  run_make_one 24 65 (.int .u64 0) 8 Try.underlying24 info65 rfl m (by omega) (by omega) W


def addE (m n : Nat) : Except Nat Nat := if B64 ^ 64 ≤ m ∨ B64 ^ 64 ≤ n then .error 2 else .ok (m + n)

theorem pow_two_sixtyfour : (B64 : Nat) = 2 ^ 64 := by decide


set_option maxHeartbeats 1000000 in
theorem add_calls {w : World} {S : Nat → Prop} {m n : Nat} {va vb : Value} (ha : RawN.rep S w m [va]) (hb : RawN.rep S w n [vb]) :
    Calls Try.prog 36 #[va, vb] w fun e w' => NumE (Fresh w w') w' e (addE m n) ∧ Below w.heap.size w w' := by
  by_cases hl : B64 ^ 64 ≤ m ∨ B64 ^ 64 ≤ n
  · rw [show addE m n = .error 2 by unfold addE; rw [if_pos hl]]
    go_enter Try.func36, Try.ntmps36
    go_wp2_with fail
    refine (both_long ha hb hl).mono ?_
    rintro e w' ⟨rfl, rfl⟩
    go_wp2
    go_ret2
    exact ⟨rfl, Below.refl _ _⟩
  · rw [show addE m n = .ok (m + n) by unfold addE; rw [if_neg hl]]
    go_enter Try.func36, Try.ntmps36
    go_wp2_with fail
    refine (both_ok ha hb (by omega) (by omega)).mono ?_
    rintro e w' ⟨⟨u, v, rfl, ⟨p, hp, cp, ea⟩, ⟨q, hq, cq, eb⟩⟩, rfl⟩
    have lp := (Pl.canon_len_le (n := 64) B64_gt (num_dig hp) cp).2 (by rw [ea]; omega)
    have lq := (Pl.canon_len_le (n := 64) B64_gt (num_dig hq) cq).2 (by rw [eb]; omega)
    clear ha hb hl cp cq
    have Ea := hid ea
    have Eb := hid eb
    clear ea eb
    have dp := num_dig hp
    have dq := num_dig hq
    obtain ⟨A, c1, rfl, hc1, hm1⟩ := sl_open hp
    obtain ⟨A', c2, rfl, hc2, hm2⟩ := sl_open hq
    by_cases hsw : p.length < q.length
    · have hP := hq
      have hQ := hp
      have Hlen : Hid (p.length ≤ q.length) := by show _ ≤ _; omega
      have hmk : ∀ W : World, (Instr.makeSlice 24 (.int .i64 ((q.length : Int) + 1)) (.int .i64 ((q.length : Int) + 1))).run Try.prog W = .ok (.slice (some ⟨W.heap.size, 0, none⟩) (q.length + 1) (q.length + 1)) (W.alloc (.cells (zerosOf (.int .u64 0) (q.length + 1)) 65)) := fun W => run_make_u64 (q.length + 1) (by omega) W
      go_wp2
      go_loopw [34, 8] (fun i c wr => ∃ k cc : Nat, ∃ outs : List Nat, i = .int .i64 k ∧ c = .int .u64 cc ∧ k ≤ q.length ∧ cc ≤ 1 ∧ outs.length = q.length + 1 ∧ Pl.Dig B64 outs ∧ Row wr w.heap.size 65 (nums .u64 outs)
        ∧ Hid (Pl.val B64 (outs.take k) + B64 ^ k * cc = Pl.val B64 (q.take k) + Pl.val B64 (p.take k)) ∧ Below w.heap.size w wr) (fun i _ _ => (q.length - (intOf i).toNat))
      case atStart =>
        exact ⟨0, 0, List.replicate (q.length + 1) 0, rfl, rfl, by omega, by omega, by simp, Pl.Dig.replicate B64_pos _, by rw [← zerosOf_num]; exact Row.new _ _ _, hid (by simp [Pl.val]), (Below.refl _ _).alloc (Nat.le_refl _) _⟩
      case round =>
        obtain ⟨k, cc, outs, rfl, rfl, hk, hcc, hol, hod, hrow, hinv, hB⟩ := hrel
        by_cases hlt : k < q.length
        · obtain ⟨b, o, rfl, _, hcell, hbd⟩ := num_at ((Rep.num .u64 B64).sl.below hP hB) k hlt
          have hst := hrow.num (k := .u64) k (by omega)
          have hsf := hrow.frozen k
          by_cases hkq : k < p.length
          · obtain ⟨b', o', rfl, _, hcell', hbd'⟩ := num_at ((Rep.num .u64 B64).sl.below hQ hB) k hkq
            have hadd := fun W => add64_run q[k] p[k] cc hcc W
            go_wp2
            go_roundw
            case rel =>
              refine ⟨k + 1, addHi q[k] p[k] cc, outs.set k (addLo q[k] p[k] cc), by go_num, rfl, by omega, addHi_le hbd hbd' hcc, by simpa using hol, hod.set k (addLo_lt _ _ _), hrow.setNum k _, ?_, below_setCell hB (Nat.le_refl _) _⟩
              have h1 := add_parts q[k] p[k] cc
              have h2 := hinv.out
              show _ = _
              rw [Pl.val_take_set B64 outs k _ (by omega), Pl.val_take_succ B64 q k hlt, Pl.val_take_succ B64 p k hkq, Nat.pow_succ]
              have h3 := congrArg (B64 ^ k * ·) h1
              simp only [Nat.mul_add] at h3
              rw [Nat.mul_assoc]
              omega
            case measure => simp [intOf]; omega
          · have hadd : ∀ W : World, (callFunc 65 #[.int .u64 (q[k] : Int), .int .u64 0, .int .u64 (cc : Int)]).run Try.prog W = .ok (.value (.tuple #[.int .u64 (addLo q[k] 0 cc : Int), .int .u64 (addHi q[k] 0 cc : Int)])) W := fun W => add64_run q[k] 0 cc hcc W
            go_wp2
            go_roundw
            case rel =>
              refine ⟨k + 1, addHi q[k] 0 cc, outs.set k (addLo q[k] 0 cc), by go_num, rfl, by omega, addHi_le hbd B64_pos hcc, by simpa using hol, hod.set k (addLo_lt _ _ _), hrow.setNum k _, ?_, below_setCell hB (Nat.le_refl _) _⟩
              have h1 := add_parts q[k] 0 cc
              have h2 := hinv.out
              show _ = _
              rw [Pl.val_take_all B64 p k (by omega)] at h2
              rw [Pl.val_take_set B64 outs k _ (by omega), Pl.val_take_succ B64 q k hlt, Pl.val_take_all B64 p (k + 1) (by omega), Nat.pow_succ]
              have h3 := congrArg (B64 ^ k * ·) h1
              simp only [Nat.mul_add] at h3
              rw [Nat.mul_assoc]
              omega
            case measure => simp [intOf]; omega
        · obtain rfl : k = q.length := by omega
          have hst := hrow.num (k := .u64) q.length (by omega)
          have hsf := hrow.frozen q.length
          have hrow' := hrow.setNum (k := .u64) q.length cc
          have hB' := below_setCell hB (p := ⟨w.heap.size, q.length, none⟩) (Nat.le_refl _) (.int .u64 (cc : Int))
          have hres := hrow'.slNum (S := Fresh w (wr.setCell ⟨w.heap.size, q.length, none⟩ (.int .u64 (cc : Int)))) ⟨Nat.le_refl _, hrow'.lt⟩ (hod.set q.length (d := cc) (Nat.lt_of_le_of_lt hcc B64_gt)) (outs.set q.length cc).length (Nat.le_refl _) (by simp; omega) (by simp; omega)
          have hval : Pl.val B64 (outs.set q.length cc) = m + n := by
            have h2 := hinv.out
            have Hl := Hlen.out
            rw [Pl.val_take_all B64 q _ (Nat.le_refl _), Pl.val_take_all B64 p _ (by omega)] at h2
            have h3 := Pl.val_take_set B64 outs q.length cc (by omega)
            rw [Pl.val_take_all B64 _ _ (by simp; omega)] at h3
            have h4 := Ea.out
            have h5 := Eb.out
            omega
          have Hval := hid hval
          simp only [List.length_set, hol] at hres
          clear hval hB hrow hinv
          go_wp2_with fail
          refine (trim_calls hres).mono ?_
          rintro e w' ⟨⟨u, rfl, hu⟩, rfl⟩
          go_wp2
          go_ret2
          exact ⟨⟨_, rfl, _, hu, Pl.trim_canon _, by rw [Pl.trim_val]; exact Hval.out⟩, hB'⟩
      skip
    · have hP := hp
      have hQ := hq
      have Hlen : Hid (q.length ≤ p.length) := by show _ ≤ _; omega
      have hmk : ∀ W : World, (Instr.makeSlice 24 (.int .i64 ((p.length : Int) + 1)) (.int .i64 ((p.length : Int) + 1))).run Try.prog W = .ok (.slice (some ⟨W.heap.size, 0, none⟩) (p.length + 1) (p.length + 1)) (W.alloc (.cells (zerosOf (.int .u64 0) (p.length + 1)) 65)) := fun W => run_make_u64 (p.length + 1) (by omega) W
      go_wp2
      go_loopw [34, 8] (fun i c wr => ∃ k cc : Nat, ∃ outs : List Nat, i = .int .i64 k ∧ c = .int .u64 cc ∧ k ≤ p.length ∧ cc ≤ 1 ∧ outs.length = p.length + 1 ∧ Pl.Dig B64 outs ∧ Row wr w.heap.size 65 (nums .u64 outs)
        ∧ Hid (Pl.val B64 (outs.take k) + B64 ^ k * cc = Pl.val B64 (p.take k) + Pl.val B64 (q.take k)) ∧ Below w.heap.size w wr) (fun i _ _ => (p.length - (intOf i).toNat))
      case atStart =>
        exact ⟨0, 0, List.replicate (p.length + 1) 0, rfl, rfl, by omega, by omega, by simp, Pl.Dig.replicate B64_pos _, by rw [← zerosOf_num]; exact Row.new _ _ _, hid (by simp [Pl.val]), (Below.refl _ _).alloc (Nat.le_refl _) _⟩
      case round =>
        obtain ⟨k, cc, outs, rfl, rfl, hk, hcc, hol, hod, hrow, hinv, hB⟩ := hrel
        by_cases hlt : k < p.length
        · obtain ⟨b, o, rfl, _, hcell, hbd⟩ := num_at ((Rep.num .u64 B64).sl.below hP hB) k hlt
          have hst := hrow.num (k := .u64) k (by omega)
          have hsf := hrow.frozen k
          by_cases hkq : k < q.length
          · obtain ⟨b', o', rfl, _, hcell', hbd'⟩ := num_at ((Rep.num .u64 B64).sl.below hQ hB) k hkq
            have hadd := fun W => add64_run p[k] q[k] cc hcc W
            go_wp2
            go_roundw
            case rel =>
              refine ⟨k + 1, addHi p[k] q[k] cc, outs.set k (addLo p[k] q[k] cc), by go_num, rfl, by omega, addHi_le hbd hbd' hcc, by simpa using hol, hod.set k (addLo_lt _ _ _), hrow.setNum k _, ?_, below_setCell hB (Nat.le_refl _) _⟩
              have h1 := add_parts p[k] q[k] cc
              have h2 := hinv.out
              show _ = _
              rw [Pl.val_take_set B64 outs k _ (by omega), Pl.val_take_succ B64 p k hlt, Pl.val_take_succ B64 q k hkq, Nat.pow_succ]
              have h3 := congrArg (B64 ^ k * ·) h1
              simp only [Nat.mul_add] at h3
              rw [Nat.mul_assoc]
              omega
            case measure => simp [intOf]; omega
          · have hadd : ∀ W : World, (callFunc 65 #[.int .u64 (p[k] : Int), .int .u64 0, .int .u64 (cc : Int)]).run Try.prog W = .ok (.value (.tuple #[.int .u64 (addLo p[k] 0 cc : Int), .int .u64 (addHi p[k] 0 cc : Int)])) W := fun W => add64_run p[k] 0 cc hcc W
            go_wp2
            go_roundw
            case rel =>
              refine ⟨k + 1, addHi p[k] 0 cc, outs.set k (addLo p[k] 0 cc), by go_num, rfl, by omega, addHi_le hbd B64_pos hcc, by simpa using hol, hod.set k (addLo_lt _ _ _), hrow.setNum k _, ?_, below_setCell hB (Nat.le_refl _) _⟩
              have h1 := add_parts p[k] 0 cc
              have h2 := hinv.out
              show _ = _
              rw [Pl.val_take_all B64 q k (by omega)] at h2
              rw [Pl.val_take_set B64 outs k _ (by omega), Pl.val_take_succ B64 p k hlt, Pl.val_take_all B64 q (k + 1) (by omega), Nat.pow_succ]
              have h3 := congrArg (B64 ^ k * ·) h1
              simp only [Nat.mul_add] at h3
              rw [Nat.mul_assoc]
              omega
            case measure => simp [intOf]; omega
        · obtain rfl : k = p.length := by omega
          have hst := hrow.num (k := .u64) p.length (by omega)
          have hsf := hrow.frozen p.length
          have hrow' := hrow.setNum (k := .u64) p.length cc
          have hB' := below_setCell hB (p := ⟨w.heap.size, p.length, none⟩) (Nat.le_refl _) (.int .u64 (cc : Int))
          have hres := hrow'.slNum (S := Fresh w (wr.setCell ⟨w.heap.size, p.length, none⟩ (.int .u64 (cc : Int)))) ⟨Nat.le_refl _, hrow'.lt⟩ (hod.set p.length (d := cc) (Nat.lt_of_le_of_lt hcc B64_gt)) (outs.set p.length cc).length (Nat.le_refl _) (by simp; omega) (by simp; omega)
          have hval : Pl.val B64 (outs.set p.length cc) = m + n := by
            have h2 := hinv.out
            have Hl := Hlen.out
            rw [Pl.val_take_all B64 p _ (Nat.le_refl _), Pl.val_take_all B64 q _ (by omega)] at h2
            have h3 := Pl.val_take_set B64 outs p.length cc (by omega)
            rw [Pl.val_take_all B64 _ _ (by simp; omega)] at h3
            have h4 := Ea.out
            have h5 := Eb.out
            omega
          have Hval := hid hval
          simp only [List.length_set, hol] at hres
          clear hval hB hrow hinv
          go_wp2_with fail
          refine (trim_calls hres).mono ?_
          rintro e w' ⟨⟨u, rfl, hu⟩, rfl⟩
          go_wp2
          go_ret2
          exact ⟨⟨_, rfl, _, hu, Pl.trim_canon _, by rw [Pl.trim_val]; exact Hval.out⟩, hB'⟩
      skip


def subE (m n : Nat) : Except Nat Nat := if B64 ^ 64 ≤ m ∨ B64 ^ 64 ≤ n then .error 2 else if m < n then .error 3 else .ok (m - n)

set_option maxHeartbeats 1000000 in
theorem sub_calls {w : World} {S : Nat → Prop} {m n : Nat} {va vb : Value} (ha : RawN.rep S w m [va]) (hb : RawN.rep S w n [vb]) :
    Calls Try.prog 37 #[va, vb] w fun e w' => NumE (Fresh w w') w' e (subE m n) ∧ Below w.heap.size w w' := by
  by_cases hl : B64 ^ 64 ≤ m ∨ B64 ^ 64 ≤ n
  · rw [show subE m n = .error 2 by unfold subE; rw [if_pos hl]]
    go_enter Try.func37, Try.ntmps37
    go_wp2_with fail
    refine (both_long ha hb hl).mono ?_
    rintro e w' ⟨rfl, rfl⟩
    go_wp2
    go_ret2
    exact ⟨rfl, Below.refl _ _⟩
  by_cases hless : m < n
  · rw [show subE m n = .error 3 by unfold subE; rw [if_neg hl, if_pos hless]]
    go_enter Try.func37, Try.ntmps37
    go_wp2_with fail
    refine (both_ok ha hb (by omega) (by omega)).mono ?_
    rintro e w' ⟨⟨u, v, rfl, hp, hq⟩, rfl⟩
    go_wp2_with fail
    refine (cmp_calls (num_raw hp) (num_raw hq)).mono ?_
    rintro e w1 ⟨rfl, hst⟩
    rw [Pl.cmp_lt hless]
    go_wp2
    go_ret2
    exact ⟨rfl, hst.below⟩
  · rw [show subE m n = .ok (m - n) by unfold subE; rw [if_neg hl, if_neg hless]]
    have hc : 0 ≤ Pl.cmp m n := by have := @Pl.cmp_neg m n; omega
    go_enter Try.func37, Try.ntmps37
    go_wp2_with fail
    refine (both_ok ha hb (by omega) (by omega)).mono ?_
    rintro e w' ⟨⟨u, v, rfl, hp, hq⟩, rfl⟩
    go_wp2_with fail
    refine (cmp_calls (num_raw hp) (num_raw hq)).mono ?_
    rintro e w1 ⟨rfl, hst⟩
    obtain ⟨p, hP, cp, ea⟩ := hst.rep _ hp
    obtain ⟨q, hQ, cq, eb⟩ := hst.rep _ hq
    have lp := (Pl.canon_len_le (n := 64) B64_gt (num_dig hP) cp).2 (by rw [ea]; omega)
    have lq := Pl.canon_len B64_pos (num_dig hP) cq (show Pl.val B64 q ≤ Pl.val B64 p by omega)
    have hmn : n ≤ m := by omega
    clear ha hb hl cp cq hp hq hless
    have Ea := hid ea
    have Eb := hid eb
    clear ea eb
    have dp := num_dig hP
    have dq := num_dig hQ
    obtain ⟨A, c1, rfl, hc1, hm1⟩ := sl_open hP
    obtain ⟨A', c2, rfl, hc2, hm2⟩ := sl_open hQ
    have hB0 := hst.below
    have hsz := hid hst.size
    have hmk : ∀ W : World, (Instr.makeSlice 24 (.int .i64 (p.length : Int)) (.int .i64 (p.length : Int))).run Try.prog W = .ok (.slice (some ⟨W.heap.size, 0, none⟩) p.length p.length) (W.alloc (.cells (zerosOf (.int .u64 0) p.length) 65)) := fun W => run_make_u64 p.length (by omega) W
    go_wp2
    go_loopw [33, 8] (fun i c wr => ∃ k cc : Nat, ∃ outs : List Nat, i = .int .i64 k ∧ c = .int .u64 cc ∧ k ≤ p.length ∧ cc ≤ 1 ∧ outs.length = p.length ∧ Pl.Dig B64 outs ∧ Row wr w1.heap.size 65 (nums .u64 outs)
      ∧ Hid (Pl.val B64 (outs.take k) + Pl.val B64 (q.take k) = Pl.val B64 (p.take k) + B64 ^ k * cc) ∧ Below w1.heap.size w1 wr) (fun i _ _ => (p.length - (intOf i).toNat))
    case atStart =>
      exact ⟨0, 0, List.replicate p.length 0, rfl, rfl, by omega, by omega, by simp, Pl.Dig.replicate B64_pos _, by rw [← zerosOf_num]; exact Row.new _ _ _, hid (by simp [Pl.val]), (Below.refl _ _).alloc (Nat.le_refl _) _⟩
    case round =>
      obtain ⟨k, cc, outs, rfl, rfl, hk, hcc, hol, hod, hrow, hinv, hB⟩ := hrel
      by_cases hlt : k < p.length
      · obtain ⟨b, o, rfl, _, hcell, hbd⟩ := num_at ((Rep.num .u64 B64).sl.below hP hB) k hlt
        have hst := hrow.num (k := .u64) k (by omega)
        have hsf := hrow.frozen k
        by_cases hkq : k < q.length
        · obtain ⟨b', o', rfl, _, hcell', hbd'⟩ := num_at ((Rep.num .u64 B64).sl.below hQ hB) k hkq
          have hsub := fun W => sub64_run p[k] q[k] cc hcc W
          go_wp2
          go_roundw
          case rel =>
            refine ⟨k + 1, subHi p[k] q[k] cc, outs.set k (subLo p[k] q[k] cc), by go_num, rfl, by omega, subHi_le _ _ _, by simpa using hol, hod.set k (subLo_lt _ _ _), hrow.setNum k _, ?_, below_setCell hB (Nat.le_refl _) _⟩
            have h1 := sub_parts hbd hbd' hcc
            have h2 := hinv.out
            show _ = _
            rw [Pl.val_take_set B64 outs k _ (by omega), Pl.val_take_succ B64 p k hlt, Pl.val_take_succ B64 q k hkq, Nat.pow_succ]
            have h3 := congrArg (B64 ^ k * ·) h1
            simp only [Nat.mul_add] at h3
            rw [Nat.mul_assoc]
            omega
          case measure => simp [intOf]; omega
        · have hsub : ∀ W : World, (callFunc 66 #[.int .u64 (p[k] : Int), .int .u64 0, .int .u64 (cc : Int)]).run Try.prog W = .ok (.value (.tuple #[.int .u64 (subLo p[k] 0 cc : Int), .int .u64 (subHi p[k] 0 cc : Int)])) W := fun W => sub64_run p[k] 0 cc hcc W
          go_wp2
          go_roundw
          case rel =>
            refine ⟨k + 1, subHi p[k] 0 cc, outs.set k (subLo p[k] 0 cc), by go_num, rfl, by omega, subHi_le _ _ _, by simpa using hol, hod.set k (subLo_lt _ _ _), hrow.setNum k _, ?_, below_setCell hB (Nat.le_refl _) _⟩
            have h1 := sub_parts hbd B64_pos hcc
            have h2 := hinv.out
            show _ = _
            rw [Pl.val_take_all B64 q k (by omega)] at h2
            rw [Pl.val_take_set B64 outs k _ (by omega), Pl.val_take_succ B64 p k hlt, Pl.val_take_all B64 q (k + 1) (by omega), Nat.pow_succ]
            have h3 := congrArg (B64 ^ k * ·) h1
            simp only [Nat.mul_add] at h3
            rw [Nat.mul_assoc]
            omega
          case measure => simp [intOf]; omega
      · obtain rfl : k = p.length := by omega
        have hval : Pl.val B64 outs = m - n := by
          have h2 := hinv.out
          have h6 := Pl.val_lt hod
          rw [Pl.val_take_all B64 p _ (Nat.le_refl _), Pl.val_take_all B64 q _ (by omega), Pl.val_take_all B64 outs _ (by omega)] at h2
          rw [hol] at h6
          have h4 := Ea.out
          have h5 := Eb.out
          rcases Nat.eq_zero_or_pos cc with h0 | h0
          · subst h0; simp only [Nat.mul_zero] at h2; omega
          · have : cc = 1 := by omega
            subst this; simp only [Nat.mul_one] at h2; omega
        have Hval := hid hval
        have hres := hrow.slNum (S := Fresh w wr) ⟨by have := hsz.out; omega, hrow.lt⟩ hod p.length (by omega) (by omega) (by omega)
        rw [hol] at hres
        have hB' := below_trans hB0 hB
        clear hval hB hrow hinv
        go_wp2_with fail
        refine (trim_calls hres).mono ?_
        rintro e w' ⟨⟨u, rfl, hu⟩, rfl⟩
        go_wp2
        go_ret2
        exact ⟨⟨_, rfl, _, hu, Pl.trim_canon _, by rw [Pl.trim_val]; exact Hval.out⟩, hB'⟩


end Go.Proofs.Ytphbacggmhjmgaa

/- The layer nat, third part: products. -/
namespace Go.Proofs.Ytphbacggmhjmgaa
open Go.RowKit

def mulE (m n : Nat) : Except Nat Nat := if B64 ^ 64 ≤ m ∨ B64 ^ 64 ≤ n then .error 2 else .ok (m * n)

theorem u64_wrap_nat {a b : Nat} (h : a + b < B64) : IntKind.u64.wrap ((a : Int) + (b : Int)) = ((a + b : Nat) : Int) := by
  unfold B64 at h; rw [IntKind.wrap_u64]; omega

/-- one digit of a row of a product -/
def stepLo (x y s c : Nat) : Nat := addLo (addLo (mulLo x y) s 0) c 0
def stepHi (x y s c : Nat) : Nat := mulHi x y + addHi (mulLo x y) s 0 + addHi (addLo (mulLo x y) s 0) c 0
theorem step_parts (x y s c : Nat) : stepLo x y s c + B64 * stepHi x y s c = x * y + s + c := by
  have h1 := mul_parts x y
  have h2 := add_parts (mulLo x y) s 0
  have h3 := add_parts (addLo (mulLo x y) s 0) c 0
  unfold stepLo stepHi
  rw [Nat.mul_add, Nat.mul_add]
  omega
theorem stepLo_lt (x y s c : Nat) : stepLo x y s c < B64 := addLo_lt _ _ _
theorem stepHi_lt {x y s c : Nat} (hx : x < B64) (hy : y < B64) (hs : s < B64) (hc : c < B64) : stepHi x y s c < B64 := by
  have h := step_parts x y s c
  have h1 : x * y ≤ (B64 - 1) * (B64 - 1) := Nat.mul_le_mul (by omega) (by omega)
  have h2 : B64 * stepHi x y s c < B64 * B64 := by
    unfold B64 at *; omega
  exact Nat.lt_of_mul_lt_mul_left h2

theorem set_zero {xs : List Nat} {a i d : Nat} (h : ∀ t (ht : t < xs.length), a ≤ t → xs[t] = 0) (hi : i < a) : ∀ t (ht : t < (xs.set i d).length), a ≤ t → (xs.set i d)[t] = 0 := by
  intro t ht ha
  rw [List.getElem_set_ne (by omega)]
  exact h t (by simpa using ht) ha

set_option maxHeartbeats 2000000 in
theorem mul_calls {w : World} {S : Nat → Prop} {m n : Nat} {va vb : Value} (ha : RawN.rep S w m [va]) (hb : RawN.rep S w n [vb]) :
    Calls Try.prog 79 #[va, vb] w fun e w' => NumE (Fresh w w') w' e (mulE m n) ∧ Below w.heap.size w w' := by
  by_cases hl : B64 ^ 64 ≤ m ∨ B64 ^ 64 ≤ n
  · rw [show mulE m n = .error 2 by unfold mulE; rw [if_pos hl]]
    go_enter Try.func79, Try.ntmps79
    go_wp2_with fail
    refine (both_long ha hb hl).mono ?_
    rintro e w' ⟨rfl, rfl⟩
    go_wp2
    go_ret2
    exact ⟨rfl, Below.refl _ _⟩
  · rw [show mulE m n = .ok (m * n) by unfold mulE; rw [if_neg hl]]
    go_enter Try.func79, Try.ntmps79
    go_wp2_with fail
    refine (both_ok ha hb (by omega) (by omega)).mono ?_
    rintro e w' ⟨⟨u, v, rfl, ⟨p, hP, cp, ea⟩, ⟨q, hQ, cq, eb⟩⟩, rfl⟩
    have lp := (Pl.canon_len_le (n := 64) B64_gt (num_dig hP) cp).2 (by rw [ea]; omega)
    have lq := (Pl.canon_len_le (n := 64) B64_gt (num_dig hQ) cq).2 (by rw [eb]; omega)
    clear ha hb hl cp cq
    have Ea := hid ea
    have Eb := hid eb
    clear ea eb
    have dp := num_dig hP
    have dq := num_dig hQ
    obtain ⟨A, c1, rfl, hc1, hm1⟩ := sl_open hP
    obtain ⟨A', c2, rfl, hc2, hm2⟩ := sl_open hQ
    have hmk : ∀ W : World, (Instr.makeSlice 24 (.int .i64 ((p.length : Int) + (q.length : Int))) (.int .i64 ((p.length : Int) + (q.length : Int)))).run Try.prog W = .ok (.slice (some ⟨W.heap.size, 0, none⟩) (p.length + q.length) (p.length + q.length)) (W.alloc (.cells (zerosOf (.int .u64 0) (p.length + q.length)) 65)) := fun W => run_make_u64 (p.length + q.length) (by omega) W
    go_wp2
    go_loopw [34] (fun i wr => ∃ k : Nat, ∃ outs : List Nat, i = .int .i64 k ∧ k ≤ p.length ∧ outs.length = p.length + q.length ∧ Pl.Dig B64 outs ∧ Row wr w.heap.size 65 (nums .u64 outs)
      ∧ Hid (Pl.val B64 outs = Pl.val B64 (p.take k) * Pl.val B64 q) ∧ Hid (∀ t (ht : t < outs.length), k + q.length ≤ t → outs[t] = 0) ∧ Below w.heap.size w wr) (fun i _ => (p.length - (intOf i).toNat))
    case atStart =>
      exact ⟨0, List.replicate (p.length + q.length) 0, rfl, by omega, by simp, Pl.Dig.replicate B64_pos _, by rw [← zerosOf_num]; exact Row.new _ _ _, hid (by simp [Pl.val, Pl.val_replicate]), hid (by simp), (Below.refl _ _).alloc (Nat.le_refl _) _⟩
    case round =>
      obtain ⟨k, outs, rfl, hk, hol, hod, hrow, hinv, hzero, hB⟩ := hrel
      obtain ⟨wo, rfl⟩ : ∃ wo : World, wo = wr := ⟨_, rfl⟩
      by_cases hlt : k < p.length
      · obtain ⟨b, o, rfl, _, hcell, hbd⟩ := num_at ((Rep.num .u64 B64).sl.below hP hB) k hlt
        go_wp2
        go_loopw [41, 10] (fun i c wr => ∃ j cc : Nat, ∃ outs : List Nat, i = .int .i64 j ∧ c = .int .u64 cc ∧ j ≤ q.length ∧ cc < B64 ∧ outs.length = p.length + q.length ∧ Pl.Dig B64 outs ∧ Row wr w.heap.size 65 (nums .u64 outs)
          ∧ Hid (Pl.val B64 outs + B64 ^ (k + j) * cc = Pl.val B64 (p.take k) * Pl.val B64 q + B64 ^ k * (p[k] * Pl.val B64 (q.take j))) ∧ Hid (∀ t (ht : t < outs.length), k + q.length ≤ t → outs[t] = 0) ∧ Below w.heap.size w wr) (fun i _ _ => (q.length - (intOf i).toNat))
        case atStart => exact ⟨0, 0, outs, rfl, rfl, by omega, B64_pos, hol, hod, hrow, hid (by rw [hinv.out]; simp [Pl.val]), hzero, hB⟩
        case round =>
          clear hrow hinv hod hzero hol hB outs
          obtain ⟨j, cc, outs, rfl, rfl, hj, hcc, hol, hod, hrow, hinv, hzero, hB⟩ := hrel
          by_cases hlj : j < q.length
          · obtain ⟨b', o', rfl, _, hcell', hbd'⟩ := num_at ((Rep.num .u64 B64).sl.below hQ hB) j hlj
            have hst := hrow.num (k := .u64) (k + j) (by omega)
            have hsf := hrow.frozen (k + j)
            have hod' := hod.at (k + j) (by omega)
            have e1 : (addLo (mulLo p[k] q[j]) (outs[k + j]'(by omega)) 0) < B64 := addLo_lt _ _ _
            have e2 := mulHi_le hbd hbd'
            have e3 := addHi_le (mulLo_lt p[k] q[j]) hod' (Nat.zero_le 1)
            have e4 := addHi_le e1 hcc (Nat.zero_le 1)
            have e5 := stepHi_lt hbd hbd' hod' hcc
            have hs1 : mulHi p[k] q[j] + addHi (mulLo p[k] q[j]) (outs[k + j]'(by omega)) 0 ≤ 18446744073709551615 := by unfold B64 at e2; omega
            have hs2 : mulHi p[k] q[j] + addHi (mulLo p[k] q[j]) (outs[k + j]'(by omega)) 0 + addHi (addLo (mulLo p[k] q[j]) (outs[k + j]'(by omega)) 0) cc 0 ≤ 18446744073709551615 := by have := e5; unfold stepHi B64 at this; omega
            have ha1 : ∀ W : World, (callFunc 65 #[.int .u64 (mulLo p[k] q[j] : Int), .int .u64 ((outs[k + j]'(by omega) : Nat) : Int), .int .u64 0]).run Try.prog W = .ok (.value (.tuple #[.int .u64 (addLo (mulLo p[k] q[j]) (outs[k + j]'(by omega)) 0 : Int), .int .u64 (addHi (mulLo p[k] q[j]) (outs[k + j]'(by omega)) 0 : Int)])) W := fun W => add64_run _ _ 0 (by omega) W
            have ha2 : ∀ W : World, (callFunc 65 #[.int .u64 (addLo (mulLo p[k] q[j]) (outs[k + j]'(by omega)) 0 : Int), .int .u64 (cc : Int), .int .u64 0]).run Try.prog W = .ok (.value (.tuple #[.int .u64 (stepLo p[k] q[j] (outs[k + j]'(by omega)) cc : Int), .int .u64 (addHi (addLo (mulLo p[k] q[j]) (outs[k + j]'(by omega)) 0) cc 0 : Int)])) W := fun W => add64_run _ _ 0 (by omega) W
            have hnew := hrow.setNum (k := .u64) (k + j) (stepLo p[k] q[j] (outs[k + j]'(by omega)) cc)
            have hB' := below_setCell hB (p := ⟨w.heap.size, k + j, none⟩) (Nat.le_refl _) (.int .u64 (stepLo p[k] q[j] (outs[k + j]'(by omega)) cc : Int))
            have hdn := hod.set (k + j) (stepLo_lt p[k] q[j] (outs[k + j]'(by omega)) cc)
            have hzn := hid (set_zero (d := stepLo p[k] q[j] (outs[k + j]'(by omega)) cc) hzero.out (show k + j < k + q.length by omega))
            have hvn : Hid (Pl.val B64 (outs.set (k + j) (stepLo p[k] q[j] (outs[k + j]'(by omega)) cc)) + B64 ^ (k + (j + 1)) * stepHi p[k] q[j] (outs[k + j]'(by omega)) cc = Pl.val B64 (p.take k) * Pl.val B64 q + B64 ^ k * (p[k] * Pl.val B64 (q.take (j + 1)))) := by
              have h1 := step_parts p[k] q[j] (outs[k + j]'(by omega)) cc
              have h2 := hinv.out
              have h3 := Pl.val_set B64 outs (k + j) (stepLo p[k] q[j] (outs[k + j]'(by omega)) cc) (by omega)
              show _ = _
              rw [Pl.val_take_succ B64 q j hlj, show k + (j + 1) = (k + j) + 1 by omega, Nat.pow_succ, Nat.mul_assoc]
              have h4 := congrArg (B64 ^ (k + j) * ·) h1
              simp only [Nat.mul_add] at h3 h4 ⊢
              have h5 : B64 ^ k * (p[k] * (B64 ^ j * q[j])) = B64 ^ (k + j) * (p[k] * q[j]) := by
                rw [Nat.pow_add, Nat.mul_left_comm p[k], Nat.mul_assoc]
              omega
            clear hinv hzero
            go_wp2_with fail
            refine (mul64_calls p[k] q[j] hbd hbd' _).mono ?_
            rintro e w' ⟨rfl, rfl⟩
            go_wp2
            go_roundw
            case rel => exact ⟨j + 1, _, _, by go_num, rfl, by omega, e5, by simpa using hol, hdn, hnew, hvn, hzn, hB'⟩
            case measure => simp [intOf]; omega
          · obtain rfl : j = q.length := by omega
            have hst := hrow.num (k := .u64) (k + q.length) (by omega)
            have hsf := hrow.frozen (k + q.length)
            have hnew := hrow.setNum (k := .u64) (k + q.length) cc
            have hB' := below_setCell hB (p := ⟨w.heap.size, k + q.length, none⟩) (Nat.le_refl _) (.int .u64 (cc : Int))
            have hdn := hod.set (k + q.length) hcc
            have hzn : Hid (∀ t (ht : t < (outs.set (k + q.length) cc).length), k + 1 + q.length ≤ t → (outs.set (k + q.length) cc)[t] = 0) := by
              intro t ht ha
              rw [List.getElem_set_ne (by omega)]
              exact hzero.out t (by simpa using ht) (by omega)
            have hvn : Hid (Pl.val B64 (outs.set (k + q.length) cc) = Pl.val B64 (p.take (k + 1)) * Pl.val B64 q) := by
              have h2 := hinv.out
              have h3 := Pl.val_set B64 outs (k + q.length) cc (by omega)
              rw [hzero.out (k + q.length) (by omega) (Nat.le_refl _)] at h3
              rw [Pl.val_take_all B64 q _ (Nat.le_refl _)] at h2
              show _ = _
              rw [Pl.val_take_succ B64 p k hlt, Nat.add_mul, Nat.mul_assoc]
              omega
            clear hinv hzero
            go_wp2
            go_roundw
            case rel => exact ⟨k + 1, _, by go_num, by omega, by simpa using hol, hdn, hnew, hvn, hzn, hB'⟩
            case measure => simp [intOf]; omega
      · obtain rfl : k = p.length := by omega
        have hval : Pl.val B64 outs = m * n := by
          have h2 := hinv.out
          rwa [Pl.val_take_all B64 p _ (Nat.le_refl _), Ea.out, Eb.out] at h2
        have Hval := hid hval
        have hres := hrow.slNum (S := Fresh w wo) ⟨Nat.le_refl _, hrow.lt⟩ hod (p.length + q.length) (by omega) (by omega) (by omega)
        rw [hol] at hres
        clear hval hrow hinv hzero
        go_wp2_with fail
        refine (trim_calls hres).mono ?_
        rintro e w' ⟨⟨u, rfl, hu⟩, rfl⟩
        go_wp2
        go_ret2
        exact ⟨⟨_, rfl, _, hu, Pl.trim_canon _, by rw [Pl.trim_val]; exact Hval.out⟩, hB⟩

end Go.Proofs.Ytphbacggmhjmgaa
