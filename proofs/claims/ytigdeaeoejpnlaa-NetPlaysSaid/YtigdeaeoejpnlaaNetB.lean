/- The layer net, second part: what a net is in memory; New, Len, has. -/
import Derived.Test.YtigdeaeoejpnlaaNetA
namespace Go.Proofs.Ytigdeaeoejpnlaa
open Go.RowKit

/-- Of the blocks that were there, those that F doesn't name are as they were. -/
structure Turned (F : Nat → Prop) (w w' : World) : Prop where
  os : w'.os = w.os
  tape : w'.tape = w.tape
  output : w'.output = w.output
  size : w.heap.size ≤ w'.heap.size
  block : ∀ b, b < w.heap.size → ¬ F b → w'.heap[b]? = w.heap[b]?

theorem Turned.refl (F : Nat → Prop) (w : World) : Turned F w w := ⟨rfl, rfl, rfl, Nat.le_refl _, fun _ _ _ => rfl⟩
theorem Turned.of_below {F : Nat → Prop} {w w' : World} (h : Below w.heap.size w w') : Turned F w w' := ⟨h.os, h.tape, h.output, h.size, fun b hb _ => h.block b hb⟩
theorem Turned.of_grown {F : Nat → Prop} {w w' : World} {row : Option Nat} (h : w.grownBy w' row) (hr : ∀ k, row = some k → F k) : Turned F w w' :=
  ⟨h.os, h.tape, h.output, h.size, fun b hb hn => h.block b hb (fun e => hn (hr b e.symm))⟩
theorem Turned.trans {F F' : Nat → Prop} {a b c : World} (h : Turned F a b) (k : Turned F' b c) (hF : ∀ i, F' i → F i ∨ a.heap.size ≤ i) : Turned F a c :=
  ⟨k.os.trans h.os, k.tape.trans h.tape, k.output.trans h.output, Nat.le_trans h.size k.size, fun i hi hn => (k.block i (Nat.lt_of_lt_of_le hi h.size) (fun hf => (hF i hf).elim hn (by omega))).trans (h.block i hi hn)⟩
theorem Turned.below {F : Nat → Prop} {B : Nat} {a b c : World} (h : Below B a b) (k : Turned F b c) (hB : B ≤ b.heap.size) (hF : ∀ i, F i → B ≤ i) : Below B a c :=
  ⟨k.os.trans h.os, k.tape.trans h.tape, k.output.trans h.output, Nat.le_trans h.size k.size, fun i hi => (k.block i (by omega) (fun hf => by have := hF i hf; omega)).trans (h.block i hi)⟩
theorem Turned.same {F S : Nat → Prop} {w w' : World} (k : Turned F w w') (hS : ∀ b, S b → b < w.heap.size ∧ ¬ F b) : Same S w w' := fun b hb => k.block b (hS b hb).1 (hS b hb).2
theorem Turned.set {F : Nat → Prop} {w w' : World} (k : Turned F w w') {a : Addr} (ha : F a.block) (v : Value) : Turned F w (w'.setCell a v) :=
  ⟨k.os, k.tape, k.output, by simpa using k.size, fun b hb hn => by rw [heap_setCell_other w' a b v (fun e => hn (e ▸ ha))]; exact k.block b hb hn⟩

/-- A net: F names the blocks that may be turned (the one that holds its slice, the slice's own), S those of its packets' bodies. -/
structure NetIs (B : Nat) (F S : Nat → Prop) (w : World) (g : Nat) (xs : List Packet) : Prop where
  ex : ∃ sv, Row w g 79 [sv] ∧ Own PacketS B 30 S w xs sv ∧ (∀ k, sv.ownBlock = some k → F k ∧ k ≠ g)
  self : F g
  lt : ∀ b, F b → B ≤ b ∧ b < w.heap.size
  bod : ∀ b, S b → b < w.heap.size ∧ ¬ F b
  len : xs.length ≤ 4096

/-- An own slice's value. -/
theorem Own.val {α : Type} {r : Rep α} {base : Nat} {e : TypeId} {S : Nat → Prop} {w : World} {xs : List α} {v : Value} (h : Own r base e S w xs v) :
    ∃ A cap, v = .slice A xs.length cap ∧ xs.length ≤ cap ∧ cap ≤ 9223372036854775807 := by
  obtain ⟨cs, h1, h2⟩ := h
  rcases h1.2 with ⟨rfl, h0⟩ | ⟨g, cap, cur, rfl, _, hg, hn, hm, hs, ht⟩
  · exact ⟨none, 0, by rw [h0], by omega, by omega⟩
  · exact ⟨_, cap, rfl, hn, by simpa [maxLen] using hm⟩

theorem NetIs.same {B : Nat} {F S : Nat → Prop} {w w' : World} {g : Nat} {xs : List Packet} (h : NetIs B F S w g xs) (hs : Same (fun b => F b ∨ S b) w w') (hsz : w.heap.size ≤ w'.heap.size) : NetIs B F S w' g xs := by
  obtain ⟨⟨sv, h1, h2, h3⟩, h5, h6, h8, h7⟩ := h
  refine ⟨⟨sv, h1.same (S := fun b => F b ∨ S b) (.inl h5) hs, ?_, h3⟩, h5, fun b hb => ⟨(h6 b hb).1, Nat.lt_of_lt_of_le (h6 b hb).2 hsz⟩, fun b hb => ⟨Nat.lt_of_lt_of_le (h8 b hb).1 hsz, (h8 b hb).2⟩, h7⟩
  obtain ⟨cs, k1, k2⟩ := h2
  refine ⟨cs, ?_, k2.mono (fun _ h => h) (fun b hb => hs b (.inr hb))⟩
  refine ⟨k1.1, ?_⟩
  rcases k1.2 with ⟨rfl, h0⟩ | ⟨b, cap, cur, rfl, hb, hg, r⟩
  · exact .inl ⟨rfl, h0⟩
  · exact .inr ⟨b, cap, cur, rfl, hb, (hs b (.inl (h3 b rfl).1)).trans hg, r⟩
theorem NetIs.below {B : Nat} {F S : Nat → Prop} {w w' : World} {g : Nat} {xs : List Packet} (h : NetIs B F S w g xs) (hw : Below w.heap.size w w') : NetIs B F S w' g xs :=
  h.same (fun b hb => hw.block b (hb.elim (fun hb => (h.lt b hb).2) (fun hb => (h.bod b hb).1))) hw.size
theorem NetIs.turned {B : Nat} {F S F' : Nat → Prop} {w w' : World} {g : Nat} {xs : List Packet} (h : NetIs B F S w g xs) (hw : Turned F' w w') (hn : ∀ b, F b ∨ S b → ¬ F' b) : NetIs B F S w' g xs :=
  h.same (fun b hb => hw.block b (hb.elim (fun hb => (h.lt b hb).2) (fun hb => (h.bod b hb).1)) (hn b hb)) hw.size

theorem NetIs.open {B : Nat} {F S : Nat → Prop} {w : World} {g : Nat} {xs : List Packet} (h : NetIs B F S w g xs) : ∃ A cap, w.cell? ⟨g, 0, none⟩ = some (.slice A xs.length cap) ∧ xs.length ≤ cap ∧ cap ≤ 9223372036854775807 ∧ w.frozen? ⟨g, 0, none⟩ = false ∧
    Row w g 79 [.slice A xs.length cap] ∧ Own PacketS B 30 S w xs (.slice A xs.length cap) ∧ (∀ k, (Value.slice A xs.length cap).ownBlock = some k → F k ∧ k ≠ g) := by
  obtain ⟨⟨sv, h1, h2, h3⟩, h5, h6, h8, h7⟩ := h
  obtain ⟨A, cap, rfl, hc, hm⟩ := h2.val
  exact ⟨A, cap, h1.cell 0 (by simp), hc, hm, h1.frozen 0, h1, h2, h3⟩

/-- Its packets, read as a slice. -/
theorem NetIs.slice {B : Nat} {F S : Nat → Prop} {w : World} {g : Nat} {xs : List Packet} (h : NetIs B F S w g xs) {v : Value} (ho : Own PacketS B 30 S w xs v) (h3 : ∀ k, v.ownBlock = some k → F k ∧ k ≠ g) : PacketS.sl.rep (fun b => F b ∨ S b) w xs [v] :=
  ho.sl (fun _ h => .inr h) (fun k hk => .inl (h3 k hk).1) (by have := h.len; have e : PacketS.by_ = 56 := rfl; rw [e]; omega)

theorem new_calls (w : World) (B : Nat) (hB : B ≤ w.heap.size) :
    Calls Try.prog 13 #[] w fun e w' => ∃ g, e = .returned (.pointer (some ⟨g, 0, none⟩)) ∧ NetIs B (Fresh w w') (fun _ => False) w' g [] ∧ Below w.heap.size w w' := by
  go_enter Try.func13, Try.ntmps13
  go_wp2
  go_ret
  refine ⟨_, rfl, ⟨⟨.slice none 0 0, Row.new w _ #[.slice none 0 0], Own.nil _ _ _ _ _, fun k hk => by simp [Value.ownBlock] at hk⟩, ⟨Nat.le_refl _, by simp⟩, fun b hb => ⟨Nat.le_trans hB hb.1, hb.2⟩, fun b hb => hb.elim, by simp⟩, below_alloc (Below.refl _ _) _⟩

theorem netlen_calls {B : Nat} {F S : Nat → Prop} {w : World} {g : Nat} {xs : List Packet} (h : NetIs B F S w g xs) :
    Calls Try.prog 15 #[.pointer (some ⟨g, 0, none⟩)] w fun e w' => e = .returned (.int .i64 (xs.length : Int)) ∧ w = w' := by
  obtain ⟨A, cap, hc, h1, h2, hf, _⟩ := h.open
  go_enter Try.func15, Try.ntmps15
  go_wp2
  go_ret
  exact ⟨rfl, rfl⟩

theorem has_calls {B : Nat} {F S : Nat → Prop} {w : World} {g : Nat} {xs : List Packet} (h : NetIs B F S w g xs) (i : Int) :
    Calls Try.prog 47 #[.pointer (some ⟨g, 0, none⟩), .int .i64 i] w fun e w' => e = .returned (.bool (decide (0 ≤ i ∧ i < (xs.length : Int)))) ∧ w = w' := by
  obtain ⟨A, cap, hc, h1, h2, hf, _⟩ := h.open
  go_enter Try.func47, Try.ntmps47
  by_cases h0 : 0 ≤ i
  · go_wp2
    go_ret
    exact ⟨by simp [h0], rfl⟩
  · go_wp2
    go_ret
    exact ⟨by have h1 : decide (0 ≤ i) = false := decide_eq_false (by omega)
              rw [h1]; rfl, rfl⟩

end Go.Proofs.Ytigdeaeoejpnlaa
