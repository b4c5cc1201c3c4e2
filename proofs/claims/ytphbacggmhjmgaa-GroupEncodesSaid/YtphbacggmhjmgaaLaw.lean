/- What the statements share. -/
import Derived.Test.YtphbacggmhjmgaaRefQ
import Derived.Test.YtphbacggmhjmgaaMontQ
import Derived.Test.YtphbacggmhjmgaaReads
namespace Go.Proofs.Ytphbacggmhjmgaa
open Go.RowKit

/-- a step of a chain, by its numbers' digits -/
abbrev DStep := List Nat × List Nat × List Nat
def DStepS : Rep DStep := NatS.pair (NatS.pair NatS)
def dv (t : DStep) : Nat × Nat × Nat := (Pl.val B64 t.1, Pl.val B64 t.2.1, Pl.val B64 t.2.2)

theorem code_eql (a b : Int) (W : World) : (binOp .eql 31 (.iface 38 (.int .i64 a)) (.iface 38 (.int .i64 b))).run Try.prog W = .ok (.bool (a == b)) W := by
  have hinfo : (Try.prog.info? 38).map (fun i => i.comparable) = some true := by kernel_rfl
  obtain ⟨i, hi, hc⟩ := Option.map_eq_some_iff.1 hinfo
  exact run_eql_iface_int W a b Try.underlying31 Try.underlying38 hi hc
theorem raw_len {w : World} {S : Nat → Prop} {n : Nat} {A : Option Addr} {l cap : Nat} (h : RawN.rep S w n [.slice A l cap]) : ∃ xs, NatS.rep S w xs [.slice A l cap] ∧ Pl.val B64 xs = n ∧ l = xs.length := by
  obtain ⟨xs, hx, hv⟩ := h
  exact ⟨xs, hx, hv, (sl_cap hx).1⟩
theorem of_raw {w : World} {S : Nat → Prop} {n : Nat} {A : Option Addr} {l cap : Nat} (h : RawN.rep S w n [.slice A l cap]) (hl : l ≤ 20000) :
    Calls Try.prog 16 #[.slice A l cap] w fun e w' => (∃ u, e = .returned u ∧ RefN.rep (Fresh w w') w' n [u]) ∧ Below w.heap.size w w' := by
  obtain ⟨xs, hx, rfl, rfl⟩ := raw_len h
  exact of_calls hx hl
theorem lit_num (w : World) (x : Nat) (h0 : 0 < x) (hx : x < B64) (g : Nat) (hg : g = w.heap.size) : NumN.rep (· < (w.alloc (.cells #[.int .u64 (x : Int)] 65)).heap.size) (w.alloc (.cells #[.int .u64 (x : Int)] 65)) x [.slice (some ⟨g, 0, none⟩) 1 1] := by
  subst hg
  have h := lit1 w x hx
  exact ⟨[x], NatS.mono h (by rintro b rfl; simp) (Same.refl _ _), by simp [Pl.Canon]; omega, Pl.val_one _ _⟩
theorem mod_ptr {S : Nat → Prop} {w : World} {m : Nat} {v : Value} (h : ModP.rep S w m [v]) : ∃ g : Nat, v = .pointer (some ⟨g, 0, none⟩) := by
  obtain ⟨g, A, cap, inv, tv, ms, rfl, _⟩ := mod_open h
  exact ⟨g, rfl⟩
theorem reads_nat : Reads Try.prog 24 NatS :=
  reads_slice Try.underlying24 (reads_num (B := B64) Try.underlying65 rfl (by decide)) (by kernel_rfl) (by kernel_rfl) (by decide)
theorem num_eq {S T : Nat → Prop} {w : World} {n : Nat} {va vb : Value} (ha : NumN.rep S w n [va]) (hb : NumN.rep T w n [vb]) : ∃ xs, NatS.rep S w xs [va] ∧ NatS.rep T w xs [vb] := by
  obtain ⟨xs, hx, cx, ex⟩ := ha
  obtain ⟨ys, hy, cy, ey⟩ := hb
  obtain rfl := Pl.canon_ext B64_pos (num_dig hx) (num_dig hy) cx cy (ex.trans ey.symm)
  exact ⟨xs, hx, hy⟩
theorem same_num {w : World} {S T : Nat → Prop} {n : Nat} {va vb : Value} (ha : NumN.rep S w n [va]) (hb : NumN.rep T w n [vb]) :
    Calls Try.prog 11 #[va, vb] w fun e w' => e = .returned (.bool true) ∧ Still w w' := by
  obtain ⟨xs, hx, hy⟩ := num_eq ha hb
  refine (rsame_calls hx hy).mono fun e w' ⟨h, hs⟩ => ⟨?_, hs⟩
  rw [h]; simp
theorem raw_lt {S : Nat → Prop} {w : World} {n k : Nat} {xs : List Nat} {v : Value} (h : NatS.rep S w xs [v]) (hn : n = Pl.val B64 xs) (hl : xs.length ≤ k) : n < B64 ^ k := by
  rw [hn]; exact Nat.lt_of_lt_of_le (Pl.val_lt (num_dig h)) (Nat.pow_le_pow_right B64_pos hl)
theorem lim_le {n k l : Nat} (h : n < B64 ^ k) (hk : k ≤ l) : n < B64 ^ l := Nat.lt_of_lt_of_le h (Nat.pow_le_pow_right B64_pos hk)
theorem mulE_ok {a b : Nat} (ha : a < B64 ^ 64) (hb : b < B64 ^ 64) : mulE a b = .ok (a * b) := by unfold mulE; rw [if_neg (by omega)]
theorem modMulE_ok {m a b : Nat} (ha : a < B64 ^ 64) (hb : b < B64 ^ 64) : modMulE m a b = .ok (a * b % m) := by unfold modMulE; rw [if_neg (by omega)]
theorem modAddE_ok {m a b : Nat} (ha : a < B64 ^ 64) (hb : b < B64 ^ 64) : modAddE m a b = .ok ((a + b) % m) := by unfold modAddE; rw [if_neg (by omega)]
theorem modSubE_ok {m a b : Nat} (ha : a < B64 ^ 64) (hb : b < B64 ^ 64) : modSubE m a b = .ok ((a % m + m - b % m) % m) := by unfold modSubE; rw [if_neg (by omega)]
theorem modExpE_ok {m a b : Nat} (ha : a < B64 ^ 64) (hb : b < B64 ^ 64) : modExpE m a b = .ok (a ^ b % m) := by unfold modExpE; rw [if_neg (by omega)]
theorem reduceE_ok {m a : Nat} (ha : a < B64 ^ 64) : ReduceE m a = .ok (a % m) := by unfold ReduceE; rw [if_neg (by omega)]

end Go.Proofs.Ytphbacggmhjmgaa
