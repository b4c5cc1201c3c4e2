/- The layer net, eighth part: Take. -/
import Derived.Test.YtigdeaeoejpnlaaNetG
namespace Go.Proofs.Ytigdeaeoejpnlaa
open Go.RowKit

theorem row_five {w : World} {k : Nat} {e : TypeId} {cur cs : List Value} {i L : Nat} {v0 v1 v2 v3 v4 : Value} (h : Row w k e cur) (ht : cur.take (L * 5) = cs) (he : (cs.drop (i * 5)).take 5 = [v0, v1, v2, v3, v4]) :
    w.cell? ⟨k, i * 5, none⟩ = some v0 ∧ w.cell? ⟨k, i * 5 + 1, none⟩ = some v1 ∧ w.cell? ⟨k, i * 5 + 2, none⟩ = some v2 ∧ w.cell? ⟨k, i * 5 + 3, none⟩ = some v3 ∧ w.cell? ⟨k, i * 5 + 4, none⟩ = some v4 := by
  have key : ∀ j v, [v0, v1, v2, v3, v4][j]? = some v → w.cell? ⟨k, i * 5 + j, none⟩ = some v := by
    intro j v hv
    rw [← he, List.getElem?_take] at hv
    split at hv
    · rw [List.getElem?_drop, ← ht, List.getElem?_take] at hv
      split at hv
      · obtain ⟨hl, hv⟩ := List.getElem?_eq_some_iff.1 hv
        rw [h.cell _ hl, hv]
      · cases hv
    · cases hv
  exact ⟨key 0 v0 rfl, key 1 v1 rfl, key 2 v2 rfl, key 3 v3 rfl, key 4 v4 rfl⟩

theorem Turned.setNew {F : Nat → Prop} {w w' : World} (k : Turned F w w') {a : Addr} (ha : w.heap.size ≤ a.block) (v : Value) : Turned F w (w'.setCell a v) :=
  ⟨k.os, k.tape, k.output, by simpa using k.size, fun b hb hn => by rw [heap_setCell_other w' a b v (by omega)]; exact k.block b hb hn⟩

set_option maxHeartbeats 4000000 in
set_option maxRecDepth 100000 in
theorem take_ok {B : Nat} {F S : Nat → Prop} {w : World} {g : Nat} {xs : List Packet} (hN : NetIs B F S w g xs) (i : Nat) (pk : Packet) (hpk0 : xs[i]? = some pk) :
    Calls Try.prog 19 #[.pointer (some ⟨g, 0, none⟩), .int .i64 (i : Int)] w fun e w' => (∃ ds, e = .returned (.tuple #[.agg ds.toArray, .nilIface]) ∧ PacketS.rep S w' pk ds) ∧ NetIs B F S w' g (xs.eraseIdx i) ∧ Turned F w w' := by
  obtain ⟨hi, hpk⟩ := List.getElem?_eq_some_iff.1 hpk0
  have hd : decide (0 ≤ (i : Int) ∧ (i : Int) < (xs.length : Int)) = true := decide_eq_true (by omega)
  go_enter Try.func19, Try.ntmps19
  go_wp2_with fail
  have hb0 := (Below.refl w.heap.size w).alloc (Nat.le_refl _) (.cells #[.int .i64 0, .int .i64 0, .int .u64 0, .bool false, .slice none 0 0] 30)
  have hrow := Row.new w 30 #[.int .i64 0, .int .i64 0, .int .u64 0, .bool false, .slice none 0 0]
  have hN1 := hN.below hb0
  refine (has_calls hN1 i).mono ?_
  rintro e w1 ⟨rfl, hw1⟩
  rw [hd]
  clear hd
  rw [hw1] at hN1 hrow hb0
  have hsz : w.heap.size < w1.heap.size := by rw [← hw1]; simp
  clear hw1
  obtain ⟨A', cap', hc, h1, h2, hfr, n1, n2, n3⟩ := hN1.open
  obtain ⟨cs, hown, hcs⟩ := n2
  rcases hown.2 with ⟨_, h0⟩ | ⟨k, cap, cur, hv, hBk, hcur, hnc, hcm, hcz, hct⟩
  · omega
  simp only [Value.slice.injEq, true_and] at hv
  obtain ⟨rfl, rfl⟩ := hv
  have h3 := n3 k rfl
  have hgw := (hN.lt g hN.self).2
  have hkw := (hN.lt k h3.1).2
  have hgl1 := (hN1.lt g hN.self).2
  have hrk : Row w1 k 30 cur.toList := by unfold Row; simpa using hcur
  have hr := hcs.at i hi
  rw [hpk] at hr
  obtain ⟨A1, cap1, e5, hbody, q1, q2, q3⟩ := packet_open hr
  have hct' : cur.toList.take (xs.length * 5) = cs := hct
  obtain ⟨c0, c1, c2, c3, c4⟩ := row_five hrk hct' e5
  have hrep : PacketS.rep S w1 pk _ := packet_make (d := pk.2.2.2.1) q1 q2 q3 hbody
  have hone : Hid (∀ c ∈ cur.toList.take (xs.length * 5), c.oneCell' = true) := by
    show ∀ c ∈ _, _
    rw [hct']; exact hcs.one
  have Hct : Hid (cur.toList.take (xs.length * 5) = cs) := hct'
  have Hcz : Hid (cur.toList.length = cap' * 5) := by show _ = _; rw [Array.length_toList]; exact hcz
  have Hcs := hid hcs
  have hL4 := hN.len
  have hgk : ¬ g = k := fun e => h3.2 e.symm
  have hg1 : ¬ g = w1.heap.size := by omega
  have hg2 : ¬ g = w.heap.size := by omega
  have hi1 : i < cap' := by omega
  clear hpk hpk0 hown hcs hct hct' hcz hcur hr e5
  go_wp2_with fail
  have hbox := (Below.refl w1.heap.size w1).alloc (Nat.le_refl _) (.cells #[.int .i64 pk.1, .int .i64 pk.2.1, .int .u64 (pk.2.2.1 : Int), .bool pk.2.2.2.1, .slice A1 pk.2.2.2.2.length cap1] 30)
  have r6 := Row.new w1 30 #[.int .i64 pk.1, .int .i64 pk.2.1, .int .u64 (pk.2.2.1 : Int), .bool pk.2.2.2.1, .slice A1 pk.2.2.2.2.length cap1]
  obtain ⟨w2, hw2⟩ : ∃ w2, w2 = w1.alloc (.cells #[.int .i64 pk.1, .int .i64 pk.2.1, .int .u64 (pk.2.2.1 : Int), .bool pk.2.2.2.1, .slice A1 pk.2.2.2.2.length cap1] 30) := ⟨_, rfl⟩
  rw [← hw2] at hbox r6 ⊢
  have hsz2 : w1.heap.size < w2.heap.size := by rw [hw2]; simp
  clear hw2
  have hN2 := hN1.below hbox
  have hrk2 := hrk.below (by omega) hbox
  have hrow2 := hrow.below hsz hbox
  have n12 := n1.below hgl1 hbox
  have hrep2 := PacketS.below hrep hbox
  have hcs2 : RepL PacketS S w2 xs cs := Hcs.out.mono (fun _ h => h) (fun b hb => hbox.block b (hN1.bod b hb).1)
  refine (delete_calls hrk2 hi hnc Hcz.out hone.out hL4 h2).mono ?_
  rintro e w3 ⟨rfl, hg3, cur', hr3, hl3, ht3⟩
  have hrow3 := hrow2.grown hg3 (by intro e; injection e with e; omega)
  have r63 := r6.grown hg3 (by intro e; injection e with e; omega)
  have n13 := n12.grown hg3 (by intro e; injection e with e; exact hgk e)
  obtain ⟨b0, b1, b2, b3, b4, _⟩ := row5 r63
  obtain ⟨d0, d1, d2, d3, d4, f0, f1, f2, f3, f4⟩ := row5 hrow3
  have k1 := n13.cell 0 (by simp)
  have k2 := n13.frozen 0
  have hT := NetIs.taken hN2 hi n12 h3 hBk hcs2 hnc h2 hg3 hr3 (hl3.trans Hcz.out) (by rw [ht3]; rw [← Hct.out]; rw [List.take_take, Nat.min_eq_left (by omega)])
  clear hi hnc
  go_wp2_with fail
  obtain ⟨hT1, hT2⟩ := hT
  have hfin := row5_set (hrow3.other (a := ⟨g, 0, none⟩) (fun e => hg2 e.symm) (.slice (some ⟨k, 0, none⟩) (xs.length - 1) cap')) (.int .i64 pk.1) (.int .i64 pk.2.1) (.int .u64 (pk.2.2.1 : Int)) (.bool pk.2.2.2.1) (.slice A1 pk.2.2.2.2.length cap1)
  refine bodyPost_ret (ret_packet2 rfl _ rfl hfin) rfl ?_
  have hF : ∀ b, F b ∨ S b → b ≠ w.heap.size := by
    rintro b (hb | hb)
    · have := (hN.lt b hb).2; omega
    · have := (hN.bod b hb).1; omega
  refine ⟨⟨_, rfl, ?_⟩, ?_, ?_⟩
  · exact PacketS.mono hrep2 (fun _ h => h) ((((((hT2.same hN2.bod).setCell (fun b hb => hF b (.inr hb)) _).setCell (fun b hb => hF b (.inr hb)) _).setCell (fun b hb => hF b (.inr hb)) _).setCell (fun b hb => hF b (.inr hb)) _).setCell (fun b hb => hF b (.inr hb)) _)
  · exact hT1.same ((((((Same.refl _ _).setCell hF _).setCell hF _).setCell hF _).setCell hF _).setCell hF _) (by simp)
  · exact (((((((Turned.of_below (F := F) hb0).trans ((Turned.of_below (F := F) hbox).trans hT2 (fun i h => .inl h)) (fun i h => .inl h)).setNew (by simp) _).setNew (by simp) _).setNew (by simp) _).setNew (by simp) _).setNew (by simp) _)

end Go.Proofs.Ytigdeaeoejpnlaa
