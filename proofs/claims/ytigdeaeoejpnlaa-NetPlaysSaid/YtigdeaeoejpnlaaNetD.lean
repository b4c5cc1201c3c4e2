/- The layer net, fourth part: Double. -/
import Derived.Test.YtigdeaeoejpnlaaNetC
namespace Go.Proofs.Ytigdeaeoejpnlaa
open Go.RowKit

def PushPost (B : Nat) (F S : Nat → Prop) (w : World) (g : Nat) (xs : List Packet) (w' : World) : Prop :=
  ∃ F' S', NetIs B F' S' w' g xs ∧ (∀ b, F' b → F b ∨ Fresh w w' b) ∧ (∀ b, S' b → S b ∨ Fresh w w' b) ∧ Turned F w w'

set_option maxHeartbeats 2000000 in
set_option maxRecDepth 100000 in
theorem double_none {B : Nat} {F S : Nat → Prop} {w : World} {g : Nat} {xs : List Packet} (hN : NetIs B F S w g xs) (i : Int) (hi : ¬ (0 ≤ i ∧ i < (xs.length : Int))) :
    Calls Try.prog 16 #[.pointer (some ⟨g, 0, none⟩), .int .i64 i] w fun e w' => e = .returned (errV 6) ∧ w = w' := by
  have hd : decide (0 ≤ i ∧ i < (xs.length : Int)) = false := decide_eq_false hi
  go_enter Try.func16, Try.ntmps16
  go_wp2_with fail
  refine (has_calls hN i).mono ?_
  rintro e w' ⟨rfl, rfl⟩
  rw [hd]
  clear hd hi
  go_wp2_with fail
  go_ret
  exact ⟨rfl, rfl⟩

set_option maxHeartbeats 2000000 in
set_option maxRecDepth 100000 in
theorem double_full {B : Nat} {F S : Nat → Prop} {w : World} {g : Nat} {xs : List Packet} (hN : NetIs B F S w g xs) (i : Int) (hi : 0 ≤ i ∧ i < (xs.length : Int)) (hf : 4096 ≤ xs.length) :
    Calls Try.prog 16 #[.pointer (some ⟨g, 0, none⟩), .int .i64 i] w fun e w' => e = .returned (errV 11) ∧ w = w' := by
  have hd : decide (0 ≤ i ∧ i < (xs.length : Int)) = true := decide_eq_true hi
  go_enter Try.func16, Try.ntmps16
  go_wp2_with fail
  refine (has_calls hN i).mono ?_
  rintro e w' ⟨rfl, rfl⟩
  rw [hd]
  clear hd hi
  obtain ⟨A', cap', hc, h1, h2, hf', n1, n2, n3⟩ := hN.open
  go_wp2_with fail
  go_ret
  exact ⟨rfl, rfl⟩

set_option maxHeartbeats 2000000 in
set_option maxRecDepth 100000 in
theorem double_ok {B : Nat} {F S : Nat → Prop} {w : World} {g : Nat} {xs : List Packet} (hN : NetIs B F S w g xs) (i : Nat) (pk : Packet) (hpk0 : xs[i]? = some pk) (hf : xs.length < 4096) :
    Calls Try.prog 16 #[.pointer (some ⟨g, 0, none⟩), .int .i64 (i : Int)] w fun e w' => e = .returned .nilIface ∧ PushPost B F S w g (xs ++ [pk]) w' := by
  obtain ⟨hi, hpk⟩ := List.getElem?_eq_some_iff.1 hpk0
  have hd : decide (0 ≤ (i : Int) ∧ (i : Int) < (xs.length : Int)) = true := decide_eq_true (by omega)
  have hgl := (hN.lt g hN.self).2
  go_enter Try.func16, Try.ntmps16
  go_wp2_with fail
  refine (has_calls hN i).mono ?_
  rintro e w' ⟨rfl, rfl⟩
  rw [hd]
  clear hd
  obtain ⟨A', cap', hc, h1, h2, hfr, n1, n2, n3⟩ := hN.open
  obtain ⟨L, hL⟩ : ∃ L, L = xs.length := ⟨_, rfl⟩
  rw [← hL] at hc h1 n1 n2 n3
  have hsl := hN.slice n2 n3
  obtain ⟨b, o, a1, a2, a3, a4, A1, m1, cap1, rfl, hb, hrep, c0, c1, c2, c3, c4⟩ := packet_at hsl i hi
  have hLi : i < L := by omega
  have hL4 : L < 4096 := by omega
  rw [hpk] at hrep
  clear hL hpk hpk0
  go_upto_region 5 with (fail)
  have hb0 := (Below.refl w.heap.size w).drew
  have hrepB := PacketS.below hrep hb0
  have hln : Hid ((xs ++ [pk]).length = xs.length + 1) := by show _ = _; simp
  go_region_law (first
    | (go_simp; go_at_call 46
       refine (own_calls hrepB).mono ?_
       rintro e w1 ⟨⟨ds, rfl, hds⟩, hw1⟩
       obtain ⟨A2, cap2, rfl, hbody, q1, q2, q3⟩ := packet_open hds
       have hb1 := below_trans hb0 hw1
       have hgl1 := Nat.lt_of_lt_of_le hgl hb1.size
       have k1 : w1.cell? ⟨g, 0, none⟩ = some (.slice (some ⟨b, o, none⟩) L cap') := (World.cell?_of_block (w := w) (hb1.block g hgl)).trans hc
       have k2 : w1.frozen? ⟨g, 0, none⟩ = false := (World.frozen?_of_block (w := w) (hb1.block g hgl)).trans hfr)
    | (have hr := NetIs.ready (p := pk) hN hf n2 n3 hb0.size hb1 hds _ rfl
       refine step_append_rep (r := PacketS) rfl (.tmp 23) (.tmp 32) 26 30 _ 56 rfl Try.underlying26 Try.info30 rfl (by decide) (by decide) B _ xs _ [pk] rfl rfl hr.1.1 hr.1.2 hr.2.1.1 hr.2.1.2 hr.2.2.1 ?_
       intro v' w2 p1 p2 p3
       obtain ⟨A3, cap3, rfl, p4, p5⟩ := p1.val
       have hp := NetIs.pushed hN hf n1 n3 hr.2.2.2 p1 p2 p3
       have hq := NetIs.kept hgl n3 hr.2.2.2 p2
       have k3 : w2.cell? ⟨g, 0, none⟩ = some (.slice (some ⟨b, o, none⟩) L cap') := hq.1.trans hc
       have k4 : w2.frozen? ⟨g, 0, none⟩ = false := hq.2.trans hfr))
  all_goals
    rw [hln.out] at hp
    go_wp2_with fail
    go_ret
    exact ⟨rfl, hp⟩

end Go.Proofs.Ytigdeaeoejpnlaa
