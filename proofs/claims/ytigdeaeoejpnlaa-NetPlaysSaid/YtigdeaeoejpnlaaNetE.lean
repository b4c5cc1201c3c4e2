/- The layer net, fifth part: Peek; what isn't there. -/
import Derived.Test.YtigdeaeoejpnlaaNetD
import Derived.Laws.ResultCell
namespace Go.Proofs.Ytigdeaeoejpnlaa
open Go.RowKit

theorem ret_packet2 {fn : Func} {p u : Tmp} (h : fn.results = #[.cell p 30, .tmp u]) (tmps : Array Value) {W : World} {b : Nat} {e : TypeId} {v0 v1 v2 v3 v4 : Value} (hp : tmps.getD p undef = .pointer (some ⟨b, 0, none⟩)) (hr : Row W b e [v0, v1, v2, v3, v4]) :
    (results fn tmps).run Try.prog W = .ok (.tuple #[.agg #[v0, v1, v2, v3, v4], tmps.getD u undef]) W := by
  rw [results_cell_tmp h, hp]
  simp [asAddr, load_packet hr, Result.andThen]

def zeroP : Array Value := #[.int .i64 0, .int .i64 0, .int .u64 0, .bool false, .slice none 0 0]

set_option maxHeartbeats 2000000 in
theorem peek_none {B : Nat} {F S : Nat → Prop} {w : World} {g : Nat} {xs : List Packet} (hN : NetIs B F S w g xs) (i : Int) (hi : ¬ (0 ≤ i ∧ i < (xs.length : Int))) :
    Calls Try.prog 17 #[.pointer (some ⟨g, 0, none⟩), .int .i64 i] w fun e w' => e = .returned (.tuple #[.agg zeroP, errV 6]) ∧ Below w.heap.size w w' := by
  have hd : decide (0 ≤ i ∧ i < (xs.length : Int)) = false := decide_eq_false hi
  go_enter Try.func17, Try.ntmps17
  go_wp2_with fail
  have hb0 := (Below.refl w.heap.size w).alloc (Nat.le_refl _) (.cells #[.int .i64 0, .int .i64 0, .int .u64 0, .bool false, .slice none 0 0] 30)
  have hrow := Row.new w 30 #[.int .i64 0, .int .i64 0, .int .u64 0, .bool false, .slice none 0 0]
  refine (has_calls (hN.below hb0) i).mono ?_
  rintro e w' ⟨rfl, rfl⟩
  rw [hd]
  clear hd hi
  go_wp2_with fail
  refine bodyPost_ret (ret_packet2 rfl _ rfl hrow) rfl ?_
  exact ⟨rfl, hb0⟩
set_option maxHeartbeats 2000000 in
theorem take_none {B : Nat} {F S : Nat → Prop} {w : World} {g : Nat} {xs : List Packet} (hN : NetIs B F S w g xs) (i : Int) (hi : ¬ (0 ≤ i ∧ i < (xs.length : Int))) :
    Calls Try.prog 19 #[.pointer (some ⟨g, 0, none⟩), .int .i64 i] w fun e w' => e = .returned (.tuple #[.agg zeroP, errV 6]) ∧ Below w.heap.size w w' := by
  have hd : decide (0 ≤ i ∧ i < (xs.length : Int)) = false := decide_eq_false hi
  go_enter Try.func19, Try.ntmps19
  go_wp2_with fail
  have hb0 := (Below.refl w.heap.size w).alloc (Nat.le_refl _) (.cells #[.int .i64 0, .int .i64 0, .int .u64 0, .bool false, .slice none 0 0] 30)
  have hrow := Row.new w 30 #[.int .i64 0, .int .i64 0, .int .u64 0, .bool false, .slice none 0 0]
  refine (has_calls (hN.below hb0) i).mono ?_
  rintro e w' ⟨rfl, rfl⟩
  rw [hd]
  clear hd hi
  go_wp2_with fail
  refine bodyPost_ret (ret_packet2 rfl _ rfl hrow) rfl ?_
  exact ⟨rfl, hb0⟩

set_option maxHeartbeats 4000000 in
theorem peek_ok {B : Nat} {F S : Nat → Prop} {w : World} {g : Nat} {xs : List Packet} (hN : NetIs B F S w g xs) (i : Nat) (pk : Packet) (hpk0 : xs[i]? = some pk) :
    Calls Try.prog 17 #[.pointer (some ⟨g, 0, none⟩), .int .i64 (i : Int)] w fun e w' => ∃ ds, e = .returned (.tuple #[.agg ds.toArray, .nilIface]) ∧ PacketS.rep (Fresh w w') w' pk ds ∧ Below w.heap.size w w' := by
  obtain ⟨hi, hpk⟩ := List.getElem?_eq_some_iff.1 hpk0
  have hd : decide (0 ≤ (i : Int) ∧ (i : Int) < (xs.length : Int)) = true := decide_eq_true (by omega)
  go_enter Try.func17, Try.ntmps17
  go_wp2_with fail
  have hb0 := (Below.refl w.heap.size w).alloc (Nat.le_refl _) (.cells #[.int .i64 0, .int .i64 0, .int .u64 0, .bool false, .slice none 0 0] 30)
  have hrow := Row.new w 30 #[.int .i64 0, .int .i64 0, .int .u64 0, .bool false, .slice none 0 0]
  have hN1 := hN.below hb0
  refine (has_calls hN1 i).mono ?_
  rintro e w1 ⟨rfl, hw1⟩
  rw [hd]
  clear hd
  rw [hw1] at hN1 hrow hb0
  have hsz : w.heap.size < w1.heap.size := by rw [← hw1]; simp
  clear hw1
  obtain ⟨A', cap', hc, h1, h2, hfr, n1, n2, n3⟩ := hN1.open
  obtain ⟨L, hL⟩ : ∃ L, L = xs.length := ⟨_, rfl⟩
  rw [← hL] at hc h1 n1 n2 n3
  have hsl := hN1.slice n2 n3
  obtain ⟨b, o, a1, a2, a3, a4, A1, m1, cap1, rfl, hb, hrep, c0, c1, c2, c3, c4⟩ := packet_at hsl i hi
  have hLi : i < L := by omega
  rw [hpk] at hrep
  clear hL hpk hpk0
  go_wp2_with fail
  refine (own_calls hrep).mono ?_
  rintro e w2 ⟨⟨ds, rfl, hds⟩, hw2⟩
  obtain ⟨A2, cap2, rfl, hbody, q1, q2, q3⟩ := packet_open hds
  have hrow2 := hrow.below hsz hw2
  obtain ⟨k0, k1, k2, k3, k4, f0, f1, f2, f3, f4⟩ := row5 hrow2
  go_wp2_with fail
  have hfin := row5_set hrow2 (.int .i64 pk.1) (.int .i64 pk.2.1) (.int .u64 (pk.2.2.1 : Int)) (.bool pk.2.2.2.1) (.slice A2 pk.2.2.2.2.length cap2)
  refine bodyPost_ret (ret_packet2 rfl _ rfl hfin) rfl ?_
  refine ⟨_, rfl, ?_, ?_⟩
  · exact PacketS.mono hds (fun b hb => ⟨by have := hb.1; omega, by have := hb.2; simpa using this⟩)
      ((((((Same.refl _ _).setCell (fun b hb => hb.ge hsz) _).setCell (fun b hb => hb.ge hsz) _).setCell (fun b hb => hb.ge hsz) _).setCell (fun b hb => hb.ge hsz) _).setCell (fun b hb => hb.ge hsz) _)
  · exact below_setCell (below_setCell (below_setCell (below_setCell (below_setCell (Below.trans hb0 (hw2.mono (by omega))) (by simp) _) (by simp) _) (by simp) _) (by simp) _) (by simp) _

end Go.Proofs.Ytigdeaeoejpnlaa
