/- The laws of the net: pick and the document's examples. -/
import Derived.Test.YtigdeaeoejpnlaaNetH
import Derived.Test.YtigdeaeoejpnlaaNetF
namespace Go.Proofs.Ytigdeaeoejpnlaa
open Go.RowKit

theorem pick_calls (c : Int) (n : Nat) (hn : 0 < n) (hc : -9223372036854775808 ≤ c ∧ c ≤ 9223372036854775807) (hn2 : n ≤ 9223372036854775807) (w : World) :
    Calls Try.prog 12 #[.int .i64 c, .int .i64 (n : Int)] w fun e w' => (∃ r : Nat, e = .returned (.int .i64 (r : Int)) ∧ r < n) ∧ w = w' := by
  have hn0 : ((n : Int) == 0) = false := by simp; omega
  go_enter Try.func12, Try.ntmps12
  by_cases h : c < 0
  · obtain ⟨m, hm⟩ : ∃ m : Nat, (m : Int) = -(c + 1) := ⟨(-(c + 1)).toNat, by omega⟩
    have h1 := Nat.mod_lt m hn
    go_wp2
    go_ret
    refine ⟨⟨m % n, ret_int ?_, h1⟩, rfl⟩
    rw [show c + 1 = -(m : Int) by omega, Int.neg_tmod, Int.neg_neg]
    rfl
  · obtain ⟨m, rfl⟩ : ∃ m : Nat, c = (m : Int) := ⟨c.toNat, by omega⟩
    have h1 := Nat.mod_lt m hn
    go_wp2
    go_ret
    exact ⟨⟨m % n, ret_int (by simp), h1⟩, rfl⟩

theorem err_eql (a b : Int) (W : World) : (binOp .eql 34 (.iface 36 (.int .i64 a)) (.iface 36 (.int .i64 b))).run Try.prog W = .ok (.bool (a == b)) W := by
  have hinfo : (Try.prog.info? 36).map (fun i => i.comparable) = some true := by kernel_rfl
  obtain ⟨i, hi, hc⟩ := Option.map_eq_some_iff.1 hinfo
  exact run_eql_iface_int W a b Try.underlying34 Try.underlying36 hi hc

/-- A packet in a block of its own. -/
def cells5 (p : Packet) (A : Option Addr) (cap : Nat) : List Value := [.int .i64 p.1, .int .i64 p.2.1, .int .u64 (p.2.2.1 : Int), .bool p.2.2.2.1, .slice A p.2.2.2.2.length cap]
structure Box (b : Nat) (S : Nat → Prop) (w : World) (p : Packet) (A : Option Addr) (cap : Nat) : Prop where
  row : Row w b 30 (cells5 p A cap)
  rep : PacketS.rep S w p (cells5 p A cap)
theorem Box.turned {b : Nat} {S F : Nat → Prop} {w w' : World} {p : Packet} {A : Option Addr} {cap : Nat} (h : Box b S w p A cap) (hw : Turned F w w') (hb : ¬ F b) (hS : ∀ i, S i → ¬ F i) : Box b S w' p A cap :=
  ⟨(hw.block b h.row.lt hb).trans h.row, PacketS.mono (PacketS.live h.rep) (fun _ h => h.1) (hw.same (fun i hi => ⟨hi.2, hS i hi.1⟩))⟩
theorem Box.cells {b : Nat} {S : Nat → Prop} {w : World} {p : Packet} {A : Option Addr} {cap : Nat} (h : Box b S w p A cap) :
    w.cell? ⟨b, 0, none⟩ = some (.int .i64 p.1) ∧ w.cell? ⟨b, 1, none⟩ = some (.int .i64 p.2.1) ∧ w.cell? ⟨b, 2, none⟩ = some (.int .u64 (p.2.2.1 : Int)) ∧ w.cell? ⟨b, 3, none⟩ = some (.bool p.2.2.2.1) ∧ w.cell? ⟨b, 4, none⟩ = some (.slice A p.2.2.2.2.length cap) := by
  obtain ⟨h0, h1, h2, h3, h4, _⟩ := row5 (show Row _ _ _ [_, _, _, _, _] from h.row)
  exact ⟨h0, h1, h2, h3, h4⟩
theorem Box.below {b : Nat} {S : Nat → Prop} {w w' : World} {p : Packet} {A : Option Addr} {cap : Nat} (h : Box b S w p A cap) (hw : Below w.heap.size w w') : Box b S w' p A cap :=
  h.turned (F := fun _ => False) (Turned.of_below hw) (fun h => h) (fun _ _ h => h)

def upP : Packet := (1, 0, 0, false, [1])
def upQ : Packet := (2, 0, 0, false, [])

theorem up_args (w1 : World) : ∃ w2, w2 = ((((w1.alloc (.cells #[.int .u8 1] 5)).alloc (.cells #[.int .i64 1, .int .i64 0, .int .u64 0, .bool false, .slice (some ⟨w1.heap.size, 0, none⟩) 1 1] 30)).alloc
      (.cells #[.int .i64 2, .int .i64 0, .int .u64 0, .bool false, .slice none 0 0] 30)).alloc (.cells #[.int .i64 1, .int .i64 0, .int .u64 0, .bool false, .slice (some ⟨w1.heap.size, 0, none⟩) 1 1, .int .i64 2, .int .i64 0, .int .u64 0, .bool false, .slice none 0 0] 30)) ∧
    Below w1.heap.size w1 w2 ∧ Box (w1.heap.size + 1) (fun b => b = w1.heap.size) w2 upP (some ⟨w1.heap.size, 0, none⟩) 1 ∧ PacketS.sl.rep (fun b => w1.heap.size ≤ b) w2 [upP, upQ] [.slice (some ⟨w1.heap.size + 1 + 1 + 1, 0, none⟩) 2 2] ∧ w2.heap.size = w1.heap.size + 4 := by
  refine ⟨_, rfl, below_alloc (below_alloc (below_alloc (below_alloc (Below.refl _ _) _) _) _) _, ?_, ?_, by simp⟩
  · have hb : Row _ _ _ (nums .u8 [1]) := (((Row.new w1 5 #[.int .u8 1]).alloc (.cells #[.int .i64 1, .int .i64 0, .int .u64 0, .bool false, .slice (some ⟨w1.heap.size, 0, none⟩) 1 1] 30)).alloc
      (.cells #[.int .i64 2, .int .i64 0, .int .u64 0, .bool false, .slice none 0 0] 30)).alloc (.cells #[.int .i64 1, .int .i64 0, .int .u64 0, .bool false, .slice (some ⟨w1.heap.size, 0, none⟩) 1 1, .int .i64 2, .int .i64 0, .int .u64 0, .bool false, .slice none 0 0] 30)
    refine ⟨((Row.newAt _ _ _ _ (by simp)).alloc _).alloc _, packet_make (a := 1) (b := 0) (c := 0) (d := false) (e := [1]) (by omega) (by omega) (by unfold B64; omega) ?_⟩
    exact Row.slNum (B := 256) (S := fun b => b = w1.heap.size) hb rfl (by intro x hx; simp at hx; subst hx; omega) 1 (by simp) (by omega) (by simp)
  · have hb : Row _ _ _ (nums .u8 [1]) := (((Row.new w1 5 #[.int .u8 1]).alloc (.cells #[.int .i64 1, .int .i64 0, .int .u64 0, .bool false, .slice (some ⟨w1.heap.size, 0, none⟩) 1 1] 30)).alloc
      (.cells #[.int .i64 2, .int .i64 0, .int .u64 0, .bool false, .slice none 0 0] 30)).alloc (.cells #[.int .i64 1, .int .i64 0, .int .u64 0, .bool false, .slice (some ⟨w1.heap.size, 0, none⟩) 1 1, .int .i64 2, .int .i64 0, .int .u64 0, .bool false, .slice none 0 0] 30)
    refine Row.sl (r := PacketS) (xs := [upP, upQ]) (g := w1.heap.size + 1 + 1 + 1) (Row.newAt _ _ _ _ (by simp)) (by omega) ?_ 2 (by simp) (by omega) (by simp [PacketS, Rep.pair, Rep.int, Rep.bool, Rep.num, BytesS, Rep.sl])
    refine ⟨_, _, rfl, packet_make (a := 1) (b := 0) (c := 0) (d := false) (e := [1]) (v := .slice (some ⟨w1.heap.size, 0, none⟩) 1 1) (by omega) (by omega) (by unfold B64; omega) ?_, _, _, rfl, packet_make (a := 2) (b := 0) (c := 0) (d := false) (e := []) (v := .slice none 0 0) (by omega) (by omega) (by unfold B64; omega) (sl_nil _ _ _), rfl⟩
    exact Row.slNum (B := 256) hb (Nat.le_refl _) (by intro x hx; simp at hx; subst hx; omega) 1 (by simp) (by omega) (by simp)

set_option maxHeartbeats 8000000 in
set_option maxRecDepth 100000 in
theorem up_calls (w : World) : Calls Try.prog 11 #[] w fun e w' => e = .returned (.bool true) ∧ Below w.heap.size w w' := by
  have e6 : errV 6 = .iface 36 (.int .i64 6) := rfl
  go_enter Try.func11, Try.ntmps11
  go_wp2_with fail
  refine (new_calls w w.heap.size (Nat.le_refl _)).mono ?_
  rintro e w1 ⟨g, rfl, hN1, hb1⟩
  go_wp2_with fail
  obtain ⟨w2, hw2, hb2, hP2, hl2, hz2⟩ := up_args w1
  rw [← hw2]
  clear hw2
  have hN2 := hN1.below hb2
  have hbw2 := Below.trans hb1 (hb2.mono hb1.size)
  have hs1 := hb1.size
  refine (send_calls hN2 hl2 (fun b hb hf => by have := hf.2; omega)).mono ?_
  rintro e w3 ⟨he, F3, S3, hN3, hF3, hS3, ht3⟩
  simp only [List.length_cons, List.length_nil, Nat.zero_add, Nat.sub_zero, Nat.reduceAdd, Nat.reduceSub, List.nil_append] at he hN3
  subst he
  rw [List.take_of_length_le (by simp)] at hN3
  have hP3 := hP2.turned ht3 (fun hf => by have := hf.2; omega) (fun i hi hf => by have := hf.2; omega)
  have hbw3 := ht3.below hbw2 (by omega) (fun i hi => hi.1)
  have hs3 := ht3.size
  have hf3 : ∀ i, F3 i → i ≠ w1.heap.size ∧ i ≠ w1.heap.size + 1 := by
    intro i hi
    rcases hF3 i hi with h | h
    · have := h.2; omega
    · have := h.1; omega
  clear ht3 hF3 hS3 hN2 hN1 hP2 hl2
  go_wp2_with fail
  refine (double_ok hN3 0 upP rfl (by simp)).mono ?_
  rintro e w4 ⟨rfl, F4, S4, hN4, hF4, hS4, ht4⟩
  have hP4 := hP3.turned ht4 (fun hf => (hf3 _ hf).2 rfl) (fun i hi hf => (hf3 _ hf).1 hi)
  have hbw4 := ht4.below hbw3 (by omega) (fun i hi => (hN3.lt i hi).1)
  have hs4 := ht4.size
  have hf4 : ∀ i, F4 i → i ≠ w1.heap.size ∧ i ≠ w1.heap.size + 1 := by
    intro i hi
    rcases hF4 i hi with h | h
    · exact hf3 i h
    · have := h.1; omega
  clear ht4 hF4 hS4 hN3 hP3 hf3
  go_wp2_with fail
  refine (take_ok hN4 0 upP rfl).mono ?_
  rintro e w5 ⟨⟨ds, rfl, hx5⟩, hN5, ht5⟩
  obtain ⟨A5, cap5, rfl, _⟩ := packet_open hx5
  have hP5 := hP4.turned ht5 (fun hf => (hf4 _ hf).2 rfl) (fun i hi hf => (hf4 _ hf).1 hi)
  have hbw5 := ht5.below hbw4 (by omega) (fun i hi => (hN4.lt i hi).1)
  have hs5 := ht5.size
  clear ht5 hN4 hP4
  have hN5 : NetIs w.heap.size F4 S4 w5 g [upQ, upP] := hN5
  go_wp2_with fail
  have hb6 := below_alloc (Below.refl w5.heap.size w5) (.cells #[.int .i64 upP.1, .int .i64 upP.2.1, .int .u64 (upP.2.2.1 : Int), .bool upP.2.2.2.1, .slice A5 upP.2.2.2.2.length cap5] 30)
  have hX6 : Box w5.heap.size S4 _ upP A5 cap5 := ⟨Row.new w5 30 #[.int .i64 upP.1, .int .i64 upP.2.1, .int .u64 (upP.2.2.1 : Int), .bool upP.2.2.2.1, .slice A5 upP.2.2.2.2.length cap5], PacketS.below hx5 hb6⟩
  have hz6 : (w5.alloc (.cells #[.int .i64 upP.1, .int .i64 upP.2.1, .int .u64 (upP.2.2.1 : Int), .bool upP.2.2.2.1, .slice A5 upP.2.2.2.2.length cap5] 30)).heap.size = w5.heap.size + 1 := by simp
  obtain ⟨w6, hw6⟩ : ∃ w6, w6 = w5.alloc (.cells #[.int .i64 upP.1, .int .i64 upP.2.1, .int .u64 (upP.2.2.1 : Int), .bool upP.2.2.2.1, .slice A5 upP.2.2.2.2.length cap5] 30) := ⟨_, rfl⟩
  rw [← hw6] at hb6 hX6 hz6 ⊢
  clear hw6
  have hN6 := hN5.below hb6
  have hP6 := hP5.below hb6
  have hbw6 := Below.trans hbw5 (hb6.mono (by omega))
  refine (netlen_calls hN6).mono ?_
  rintro e w7 ⟨rfl, rfl⟩
  go_wp2_with fail
  refine (take_ok hN6 1 upP rfl).mono ?_
  rintro e w7 ⟨⟨ds, rfl, hx7⟩, hN7, ht7⟩
  obtain ⟨A7, cap7, rfl, _⟩ := packet_open hx7
  have hN7 : NetIs w.heap.size F4 S4 w7 g [upQ] := hN7
  have hP7 := hP6.turned ht7 (fun hf => (hf4 _ hf).2 rfl) (fun i hi hf => (hf4 _ hf).1 hi)
  have hX7 := hX6.turned ht7 (fun hf => by have := (hN5.lt _ hf).2; omega) (fun i hi => (hN5.bod i hi).2)
  have hbw7 := ht7.below hbw6 (by omega) (fun i hi => (hN6.lt i hi).1)
  have hs7 := ht7.size
  clear ht7 hN5 hN6 hP5 hP6 hX6
  go_wp2_with fail
  have hb8 := below_alloc (Below.refl w7.heap.size w7) (.cells #[.int .i64 upP.1, .int .i64 upP.2.1, .int .u64 (upP.2.2.1 : Int), .bool upP.2.2.2.1, .slice A7 upP.2.2.2.2.length cap7] 30)
  have hY8 : Box w7.heap.size S4 _ upP A7 cap7 := ⟨Row.new w7 30 #[.int .i64 upP.1, .int .i64 upP.2.1, .int .u64 (upP.2.2.1 : Int), .bool upP.2.2.2.1, .slice A7 upP.2.2.2.2.length cap7], PacketS.below hx7 hb8⟩
  obtain ⟨w8, hw8⟩ : ∃ w8, w8 = w7.alloc (.cells #[.int .i64 upP.1, .int .i64 upP.2.1, .int .u64 (upP.2.2.1 : Int), .bool upP.2.2.2.1, .slice A7 upP.2.2.2.2.length cap7] 30) := ⟨_, rfl⟩
  rw [← hw8] at hb8 hY8 ⊢
  clear hw8
  have hN8 := hN7.below hb8
  have hP8 := hP7.below hb8
  have hX8 := hX7.below hb8
  have hbw8 := Below.trans hbw7 (hb8.mono (by omega))
  have hs8 := hb8.size
  refine (take_none hN8 9 (by simp)).mono ?_
  rintro e w9 ⟨he, hb9⟩
  rw [e6, zeroP] at he
  subst he
  go_wp2_with fail
  have hbA := below_alloc hb9 (.cells #[.int .i64 0, .int .i64 0, .int .u64 0, .bool false, .slice none 0 0] 30)
  refine (peek_none (hN8.below hbA) (-1) (by simp)).mono ?_
  rintro e wB ⟨he, hbB⟩
  rw [e6, zeroP] at he
  subst he
  have hbC := below_alloc (below_trans hbA hbB) (.cells #[.int .i64 0, .int .i64 0, .int .u64 0, .bool false, .slice none 0 0] 30)
  have hPC := hP8.below hbC
  have hXC := hX8.below hbC
  have hYC := hY8.below hbC
  have hbwC := Below.trans hbw8 (hbC.mono (by omega))
  obtain ⟨p0, p1, p2, p3, p4⟩ := hPC.cells
  obtain ⟨x0, x1, x2, x3, x4⟩ := hXC.cells
  clear hP8 hX8 hY8 hN7 hN8 hP7 hX7 hbA hbB hb9
  go_wp2_with fail
  refine (same_true hXC.rep hPC.rep).mono ?_
  rintro e wD ⟨rfl, hbD⟩
  have hPD := hPC.below hbD
  have hYD := hYC.below hbD
  have hbwD := Below.trans hbwC (hbD.mono (by have := hbC.size; omega))
  clear p0 p1 p2 p3 p4 x0 x1 x2 x3 x4
  obtain ⟨p0, p1, p2, p3, p4⟩ := hPD.cells
  obtain ⟨x0, x1, x2, x3, x4⟩ := hYD.cells
  go_wp2_with fail
  refine (same_true hYD.rep hPD.rep).mono ?_
  rintro e wE ⟨rfl, hbE⟩
  have hbwE := Below.trans hbwD (hbE.mono (by have := hbC.size; have := hbD.size; omega))
  have hee := fun W => err_eql 6 6 W
  go_wp2_with fail
  go_ret
  exact ⟨rfl, hbwE⟩

end Go.Proofs.Ytigdeaeoejpnlaa
