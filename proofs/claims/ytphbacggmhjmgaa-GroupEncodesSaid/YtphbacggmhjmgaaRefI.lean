/- The references' groups, first part: what one is in memory; Is. -/
import Derived.Test.YtphbacggmhjmgaaRefH
import Derived.Test.YtphbacggmhjmgaaGrpM
namespace Go.Proofs.Ytphbacggmhjmgaa
open Go.RowKit

/-- a group of the references: P, Q, G, how many bytes an element holds -/
def RGrpP : Rep G4 := Rep.ptr 37 (RefN.pair (RefN.pair (RefN.pair (Rep.num .i64 1000000))))
theorem ref_one_cell {S : Nat → Prop} {w : World} {n : Nat} {cs : List Value} (h : RefN.rep S w n cs) : ∃ A l c, cs = [.slice A l c] := by
  obtain ⟨xs, ⟨A, cap, ys, rfl, _⟩, _⟩ := h
  exact ⟨A, _, cap, rfl⟩
theorem rgrp_open {S : Nat → Prop} {w : World} {x : G4} {v : Value} (h : RGrpP.rep S w x [v]) :
    ∃ (b : Nat) (A0 : Option Addr) (l0 c0 : Nat) (A1 : Option Addr) (l1 c1 : Nat) (A2 : Option Addr) (l2 c2 : Nat), v = .pointer (some ⟨b, 0, none⟩) ∧ S b ∧ b < w.heap.size ∧ RefN.rep S w x.1 [.slice A0 l0 c0] ∧ RefN.rep S w x.2.1 [.slice A1 l1 c1] ∧ RefN.rep S w x.2.2.1 [.slice A2 l2 c2] ∧
      w.cell? ⟨b, 0, none⟩ = some (.slice A0 l0 c0) ∧ w.cell? ⟨b, 1, none⟩ = some (.slice A1 l1 c1) ∧ w.cell? ⟨b, 2, none⟩ = some (.slice A2 l2 c2) ∧ w.cell? ⟨b, 3, none⟩ = some (.int .i64 (x.2.2.2 : Int)) ∧ x.2.2.2 < 1000000 := by
  obtain ⟨b, ds, hv, hS, hb, hrow, a0, _, rfl, h0, a1, _, rfl, h1, a2, _, rfl, h2, rfl, h4⟩ := h
  obtain ⟨A0, l0, c0, rfl⟩ := ref_one_cell h0
  obtain ⟨A1, l1, c1, rfl⟩ := ref_one_cell h1
  obtain ⟨A2, l2, c2, rfl⟩ := ref_one_cell h2
  simp only [List.cons.injEq, and_true] at hv
  exact ⟨b, A0, l0, c0, A1, l1, c1, A2, l2, c2, hv, hS, hb, h0, h1, h2, hrow.cell 0 (by simp), hrow.cell 1 (by simp), hrow.cell 2 (by simp), hrow.cell 3 (by simp), h4⟩

theorem rone_calls (w : World) : Calls Try.prog 44 #[] w fun e w' => (∃ u, e = .returned u ∧ RefN.rep (Fresh w w') w' 1 [u]) ∧ Below w.heap.size w w' := by
  have h := ref_row (x := 1) (Row.new w 3 #[.int .i64 1]) (by omega) (by omega)
  go_enter Try.func44, Try.ntmps44
  go_wp2_with fail
  go_ret
  exact ⟨⟨_, rfl, RefN.mono h (by rintro b rfl; exact ⟨Nat.le_refl _, by simp⟩) (Same.refl _ _)⟩, below_bs _⟩

/-- what the references ask of a group's numbers -/
structure RSm (x : G4) : Prop where
  pp : Small (2 * (x.1 * x.1))
  q : Small x.2.1
  pos : 0 < x.1

set_option maxHeartbeats 1500000 in
set_option maxRecDepth 100000 in
theorem rgis_calls {S T : Nat → Prop} {w : World} {x : G4} {a : Nat} {v va : Value} (sx : RSm x) (h : RGrpP.rep S w x [v]) (ha : RefN.rep T w a [va]) (sa : Small a) :
    Calls Try.prog 17 #[v, va] w fun e w' => e = .returned (.bool (elB x.1 x.2.1 a)) ∧ Below w.heap.size w w' := by
  obtain ⟨b, A0, l0, c0, A1, l1, c1, A2, l2, c2, rfl, hS, hb, hp, hq, _, k0, k1, _, _, _⟩ := rgrp_open h
  obtain ⟨AA, al, ac, rfl, ha1, ha2, ha3, _⟩ := ref_low ha
  have spp := sx.pp
  have sq := sx.q
  have hP0 := sx.pos
  obtain ⟨P, hP⟩ : ∃ P, P = x.1 := ⟨_, rfl⟩
  obtain ⟨Q, hQ⟩ : ∃ Q, Q = x.2.1 := ⟨_, rfl⟩
  rw [← hP] at hp spp hP0 ⊢
  rw [← hQ] at hq sq ⊢
  clear hP hQ h sx
  have hSW : Below w.heap.size w w.drew := (Below.refl _ _).drew
  have ha' := ref_all ha
  have hp' := ref_all hp
  have hq' := ref_all hq
  by_cases hz : a = 0
  · have hf : elB P Q a = false := elB_not fun he => by have := he.pos; omega
    rw [hf]
    have al0 := ha3.2 hz
    subst al0
    clear hz hf ha3
    go_enter Try.func17, Try.ntmps17
    go_upto_region 1 with (fail)
    refine wp_region_noPanic ?_
    refine wp_region_held_drew (S := fun w' => Below w.heap.size w w') (by kernel_rfl) ?hS1 (fun hHeld => ?_)
    case hS1 => exact hSW
    refine wpAnyH_take (i := 0) (oi := { dst := some 5, op := Op.move (Operand.tmp 1), type := 35, pos := "ref.go:23", after := #[], guard := none }) (v := ?v0u1) rfl (by kernel_rfl) (by kernel_rfl) (by kernel_rfl) (fun _ _ _ h => h) (Or.inl ⟨by rfl, ?y0u1⟩) (by assumption) ?r0u1
    case y0u1 => (intro w hSw; (try dsimp only at hSw); go_simp; try with_reducible rfl)
    try simp only [Act.put, List.setIfInBounds_toArray, List.set_cons_zero, List.set_cons_succ]
    refine wpAnyH_take (i := 1) (oi := { dst := some 6, op := Op.call { callee := Callee.builtin Builtin.len, args := #[Operand.tmp 5], argTypes := #[35] }, type := 3, pos := "ref.go:23", after := #[{ on := 0, ground := Ground.data }], guard := none }) (v := ?v1u2) rfl (by kernel_rfl) (by kernel_rfl) (by kernel_rfl) (fun _ _ _ h => h) (Or.inl ⟨by rfl, ?y1u2⟩) (by assumption) ?r1u2
    case y1u2 => (intro w hSw; (try dsimp only at hSw); go_simp; try with_reducible rfl)
    try simp only [Act.put, List.setIfInBounds_toArray, List.set_cons_zero, List.set_cons_succ]
    refine wpAnyH_take (i := 2) (oi := { dst := some 7, op := Op.binOp BinOp.gtr 3 (Operand.tmp 6) (Operand.const (Value.int IntKind.i64 0)) 3, type := 4, pos := "ref.go:23", after := #[{ on := 1, ground := Ground.data }], guard := none }) (v := ?v2u3) rfl (by kernel_rfl) (by kernel_rfl) (by kernel_rfl) (fun _ _ _ h => h) (Or.inl ⟨by rfl, ?y2u3⟩) (by assumption) ?r2u3
    case y2u3 => (intro w hSw; (try dsimp only at hSw); go_simp; try with_reducible rfl)
    try simp only [Act.put, List.setIfInBounds_toArray, List.set_cons_zero, List.set_cons_succ]
    refine wpAnyH_take (i := 3) (oi := { dst := some 8, op := Op.move (Operand.tmp 7), type := 4, pos := "ref.go:23", after := #[{ on := 2, ground := Ground.data }], guard := none }) (v := ?v3u4) rfl (by kernel_rfl) (by kernel_rfl) (by kernel_rfl) (fun _ _ _ h => h) (Or.inl ⟨by rfl, ?y3u4⟩) (by assumption) ?r3u4
    case y3u4 => (intro w hSw; (try dsimp only at hSw); go_simp; try with_reducible rfl)
    try simp only [Act.put, List.setIfInBounds_toArray, List.set_cons_zero, List.set_cons_succ]
    refine wpAnyH_take (i := 4) (oi := { dst := some 9, op := Op.move (Operand.tmp 1), type := 35, pos := "ref.go:23", after := #[{ on := 3, ground := Ground.guard }], guard := some (3, true) }) (v := undef) rfl (by kernel_rfl) (by kernel_rfl) (by kernel_rfl) (fun _ _ _ h => h) (Or.inr ⟨by rfl, rfl⟩) (by assumption) ?_
    try simp only [Act.put, List.setIfInBounds_toArray, List.set_cons_zero, List.set_cons_succ]
    refine wpAnyH_take (i := 5) (oi := { dst := some 10, op := Op.move (Operand.tmp 0), type := 27, pos := "ref.go:23", after := #[{ on := 3, ground := Ground.guard }], guard := some (3, true) }) (v := undef) rfl (by kernel_rfl) (by kernel_rfl) (by kernel_rfl) (fun _ _ _ h => h) (Or.inr ⟨by rfl, rfl⟩) (by assumption) ?_
    try simp only [Act.put, List.setIfInBounds_toArray, List.set_cons_zero, List.set_cons_succ]
    refine wpAnyH_take (i := 6) (oi := { dst := some 11, op := Op.nilCheck (Operand.tmp 10), type := 0, pos := "ref.go:23", after := #[{ on := 5, ground := Ground.data }, { on := 3, ground := Ground.guard }], guard := some (3, true) }) (v := undef) rfl (by kernel_rfl) (by kernel_rfl) (by kernel_rfl) (fun _ _ _ h => h) (Or.inr ⟨by rfl, rfl⟩) (by assumption) ?_
    try simp only [Act.put, List.setIfInBounds_toArray, List.set_cons_zero, List.set_cons_succ]
    refine wpAnyH_take (i := 7) (oi := { dst := some 12, op := Op.fieldAddr 37 (Operand.tmp 11) 0, type := 0, pos := "ref.go:23", after := #[{ on := 6, ground := Ground.data }, { on := 3, ground := Ground.guard }], guard := some (3, true) }) (v := undef) rfl (by kernel_rfl) (by kernel_rfl) (by kernel_rfl) (fun _ _ _ h => h) (Or.inr ⟨by rfl, rfl⟩) (by assumption) ?_
    try simp only [Act.put, List.setIfInBounds_toArray, List.set_cons_zero, List.set_cons_succ]
    refine wpAnyH_take (i := 8) (oi := { dst := some 13, op := Op.load 35 (Operand.tmp 12), type := 35, pos := "ref.go:23", after := #[{ on := 7, ground := Ground.data }, { on := 3, ground := Ground.guard }], guard := some (3, true) }) (v := undef) rfl (by kernel_rfl) (by kernel_rfl) (by kernel_rfl) (fun _ _ _ h => h) (Or.inr ⟨by rfl, rfl⟩) (by assumption) ?_
    try simp only [Act.put, List.setIfInBounds_toArray, List.set_cons_zero, List.set_cons_succ]
    refine wpAnyH_take (i := 9) (oi := { dst := some 14, op := Op.call { callee := Callee.value (Operand.func 48), args := #[Operand.tmp 9, Operand.tmp 13], argTypes := #[35, 35] }, type := 3, pos := "ref.go:23", after := #[{ on := 4, ground := Ground.data }, { on := 8, ground := Ground.data }, { on := 3, ground := Ground.chain }, { on := 3, ground := Ground.guard }], guard := some (3, true) }) (v := undef) rfl (by kernel_rfl) (by kernel_rfl) (by kernel_rfl) (fun _ _ _ h => h) (Or.inr ⟨by rfl, rfl⟩) (by assumption) ?_
    try simp only [Act.put, List.setIfInBounds_toArray, List.set_cons_zero, List.set_cons_succ]
    refine wpAnyH_take (i := 10) (oi := { dst := some 15, op := Op.binOp BinOp.lss 3 (Operand.tmp 14) (Operand.const (Value.int IntKind.i64 0)) 3, type := 4, pos := "ref.go:23", after := #[{ on := 9, ground := Ground.data }, { on := 3, ground := Ground.guard }], guard := some (3, true) }) (v := undef) rfl (by kernel_rfl) (by kernel_rfl) (by kernel_rfl) (fun _ _ _ h => h) (Or.inr ⟨by rfl, rfl⟩) (by assumption) ?_
    try simp only [Act.put, List.setIfInBounds_toArray, List.set_cons_zero, List.set_cons_succ]
    refine wpAnyH_take (i := 11) (oi := { dst := some 16, op := Op.pick (Operand.tmp 8) (Operand.tmp 15) (Operand.const (Value.bool false)), type := 4, pos := "ref.go:23", after := #[{ on := 3, ground := Ground.data }, { on := 10, ground := Ground.data }], guard := none }) (v := ?v11u12) rfl (by kernel_rfl) (by kernel_rfl) (by kernel_rfl) (fun _ _ _ h => h) (Or.inl ⟨by rfl, ?y11u12⟩) (by assumption) ?r11u12
    case y11u12 => (intro w hSw; (try dsimp only at hSw); go_simp; try with_reducible rfl)
    try simp only [Act.put, List.setIfInBounds_toArray, List.set_cons_zero, List.set_cons_succ]
    refine wpAnyH_take (i := 12) (oi := { dst := some 17, op := Op.move (Operand.tmp 16), type := 4, pos := "ref.go:23", after := #[{ on := 11, ground := Ground.data }, { on := 9, ground := Ground.chain }], guard := none }) (v := ?v12u13) rfl (by kernel_rfl) (by kernel_rfl) (by kernel_rfl) (fun _ _ _ h => h) (Or.inl ⟨by rfl, ?y12u13⟩) (by assumption) ?r12u13
    case y12u13 => (intro w hSw; (try dsimp only at hSw); go_simp; try with_reducible rfl)
    try simp only [Act.put, List.setIfInBounds_toArray, List.set_cons_zero, List.set_cons_succ]
    refine wpAnyH_take (i := 13) (oi := { dst := some 18, op := Op.move (Operand.tmp 1), type := 35, pos := "ref.go:23", after := #[{ on := 12, ground := Ground.guard }], guard := some (12, true) }) (v := undef) rfl (by kernel_rfl) (by kernel_rfl) (by kernel_rfl) (fun _ _ _ h => h) (Or.inr ⟨by rfl, rfl⟩) (by assumption) ?_
    try simp only [Act.put, List.setIfInBounds_toArray, List.set_cons_zero, List.set_cons_succ]
    refine wpAnyH_take (i := 14) (oi := { dst := some 19, op := Op.move (Operand.tmp 0), type := 27, pos := "ref.go:23", after := #[{ on := 12, ground := Ground.guard }], guard := some (12, true) }) (v := undef) rfl (by kernel_rfl) (by kernel_rfl) (by kernel_rfl) (fun _ _ _ h => h) (Or.inr ⟨by rfl, rfl⟩) (by assumption) ?_
    try simp only [Act.put, List.setIfInBounds_toArray, List.set_cons_zero, List.set_cons_succ]
    refine wpAnyH_take (i := 15) (oi := { dst := some 20, op := Op.nilCheck (Operand.tmp 19), type := 0, pos := "ref.go:23", after := #[{ on := 14, ground := Ground.data }, { on := 12, ground := Ground.guard }], guard := some (12, true) }) (v := undef) rfl (by kernel_rfl) (by kernel_rfl) (by kernel_rfl) (fun _ _ _ h => h) (Or.inr ⟨by rfl, rfl⟩) (by assumption) ?_
    try simp only [Act.put, List.setIfInBounds_toArray, List.set_cons_zero, List.set_cons_succ]
    refine wpAnyH_take (i := 16) (oi := { dst := some 21, op := Op.fieldAddr 37 (Operand.tmp 20) 1, type := 0, pos := "ref.go:23", after := #[{ on := 15, ground := Ground.data }, { on := 12, ground := Ground.guard }], guard := some (12, true) }) (v := undef) rfl (by kernel_rfl) (by kernel_rfl) (by kernel_rfl) (fun _ _ _ h => h) (Or.inr ⟨by rfl, rfl⟩) (by assumption) ?_
    try simp only [Act.put, List.setIfInBounds_toArray, List.set_cons_zero, List.set_cons_succ]
    refine wpAnyH_take (i := 17) (oi := { dst := some 22, op := Op.load 35 (Operand.tmp 21), type := 35, pos := "ref.go:23", after := #[{ on := 16, ground := Ground.data }, { on := 12, ground := Ground.guard }], guard := some (12, true) }) (v := undef) rfl (by kernel_rfl) (by kernel_rfl) (by kernel_rfl) (fun _ _ _ h => h) (Or.inr ⟨by rfl, rfl⟩) (by assumption) ?_
    try simp only [Act.put, List.setIfInBounds_toArray, List.set_cons_zero, List.set_cons_succ]
    refine wpAnyH_take (i := 18) (oi := { dst := some 23, op := Op.move (Operand.tmp 0), type := 27, pos := "ref.go:23", after := #[{ on := 12, ground := Ground.guard }], guard := some (12, true) }) (v := undef) rfl (by kernel_rfl) (by kernel_rfl) (by kernel_rfl) (fun _ _ _ h => h) (Or.inr ⟨by rfl, rfl⟩) (by assumption) ?_
    try simp only [Act.put, List.setIfInBounds_toArray, List.set_cons_zero, List.set_cons_succ]
    refine wpAnyH_take (i := 19) (oi := { dst := some 24, op := Op.nilCheck (Operand.tmp 23), type := 0, pos := "ref.go:23", after := #[{ on := 18, ground := Ground.data }, { on := 12, ground := Ground.guard }], guard := some (12, true) }) (v := undef) rfl (by kernel_rfl) (by kernel_rfl) (by kernel_rfl) (fun _ _ _ h => h) (Or.inr ⟨by rfl, rfl⟩) (by assumption) ?_
    try simp only [Act.put, List.setIfInBounds_toArray, List.set_cons_zero, List.set_cons_succ]
    refine wpAnyH_take (i := 20) (oi := { dst := some 25, op := Op.fieldAddr 37 (Operand.tmp 24) 0, type := 0, pos := "ref.go:23", after := #[{ on := 19, ground := Ground.data }, { on := 12, ground := Ground.guard }], guard := some (12, true) }) (v := undef) rfl (by kernel_rfl) (by kernel_rfl) (by kernel_rfl) (fun _ _ _ h => h) (Or.inr ⟨by rfl, rfl⟩) (by assumption) ?_
    try simp only [Act.put, List.setIfInBounds_toArray, List.set_cons_zero, List.set_cons_succ]
    refine wpAnyH_take (i := 21) (oi := { dst := some 26, op := Op.load 35 (Operand.tmp 25), type := 35, pos := "ref.go:23", after := #[{ on := 20, ground := Ground.data }, { on := 12, ground := Ground.guard }], guard := some (12, true) }) (v := undef) rfl (by kernel_rfl) (by kernel_rfl) (by kernel_rfl) (fun _ _ _ h => h) (Or.inr ⟨by rfl, rfl⟩) (by assumption) ?_
    try simp only [Act.put, List.setIfInBounds_toArray, List.set_cons_zero, List.set_cons_succ]
    refine wpAnyH_take (i := 22) (oi := { dst := some 27, op := Op.call { callee := Callee.value (Operand.func 49), args := #[Operand.tmp 18, Operand.tmp 22, Operand.tmp 26], argTypes := #[35, 35, 35] }, type := 35, pos := "ref.go:23", after := #[{ on := 13, ground := Ground.data }, { on := 17, ground := Ground.data }, { on := 21, ground := Ground.data }, { on := 12, ground := Ground.chain }, { on := 12, ground := Ground.guard }], guard := some (12, true) }) (v := undef) rfl (by kernel_rfl) (by kernel_rfl) (by kernel_rfl) (fun _ _ _ h => h) (Or.inr ⟨by rfl, rfl⟩) (by assumption) ?_
    try simp only [Act.put, List.setIfInBounds_toArray, List.set_cons_zero, List.set_cons_succ]
    refine wpAnyH_take (i := 23) (oi := { dst := some 28, op := Op.call { callee := Callee.value (Operand.func 44), args := #[], argTypes := #[] }, type := 35, pos := "ref.go:23", after := #[{ on := 22, ground := Ground.chain }, { on := 12, ground := Ground.guard }], guard := some (12, true) }) (v := undef) rfl (by kernel_rfl) (by kernel_rfl) (by kernel_rfl) (fun _ _ _ h => h) (Or.inr ⟨by rfl, rfl⟩) (by assumption) ?_
    try simp only [Act.put, List.setIfInBounds_toArray, List.set_cons_zero, List.set_cons_succ]
    refine wpAnyH_take (i := 24) (oi := { dst := some 29, op := Op.call { callee := Callee.value (Operand.func 48), args := #[Operand.tmp 27, Operand.tmp 28], argTypes := #[35, 35] }, type := 3, pos := "ref.go:23", after := #[{ on := 22, ground := Ground.data }, { on := 23, ground := Ground.data }, { on := 23, ground := Ground.chain }, { on := 12, ground := Ground.guard }], guard := some (12, true) }) (v := undef) rfl (by kernel_rfl) (by kernel_rfl) (by kernel_rfl) (fun _ _ _ h => h) (Or.inr ⟨by rfl, rfl⟩) (by assumption) ?_
    try simp only [Act.put, List.setIfInBounds_toArray, List.set_cons_zero, List.set_cons_succ]
    refine wpAnyH_take (i := 25) (oi := { dst := some 30, op := Op.binOp BinOp.eql 3 (Operand.tmp 29) (Operand.const (Value.int IntKind.i64 0)) 3, type := 4, pos := "ref.go:23", after := #[{ on := 24, ground := Ground.data }, { on := 12, ground := Ground.guard }], guard := some (12, true) }) (v := undef) rfl (by kernel_rfl) (by kernel_rfl) (by kernel_rfl) (fun _ _ _ h => h) (Or.inr ⟨by rfl, rfl⟩) (by assumption) ?_
    try simp only [Act.put, List.setIfInBounds_toArray, List.set_cons_zero, List.set_cons_succ]
    refine wpAnyH_take (i := 26) (oi := { dst := some 31, op := Op.pick (Operand.tmp 17) (Operand.tmp 30) (Operand.const (Value.bool false)), type := 4, pos := "ref.go:23", after := #[{ on := 12, ground := Ground.data }, { on := 25, ground := Ground.data }], guard := none }) (v := ?v26u27) rfl (by kernel_rfl) (by kernel_rfl) (by kernel_rfl) (fun _ _ _ h => h) (Or.inl ⟨by rfl, ?y26u27⟩) (by assumption) ?r26u27
    case y26u27 => (intro w hSw; (try dsimp only at hSw); go_simp; try with_reducible rfl)
    try simp only [Act.put, List.setIfInBounds_toArray, List.set_cons_zero, List.set_cons_succ]
    refine wpAnyH_take (i := 27) (oi := { dst := some 4, op := Op.assign (Operand.tmp 31), type := 4, pos := "ref.go:23", after := #[{ on := 26, ground := Ground.data }, { on := 24, ground := Ground.chain }, { on := 0, ground := Ground.phase }, { on := 1, ground := Ground.phase }, { on := 2, ground := Ground.phase }, { on := 3, ground := Ground.phase }, { on := 4, ground := Ground.phase }, { on := 5, ground := Ground.phase }, { on := 6, ground := Ground.phase }, { on := 7, ground := Ground.phase }, { on := 8, ground := Ground.phase }, { on := 9, ground := Ground.phase }, { on := 10, ground := Ground.phase }, { on := 11, ground := Ground.phase }, { on := 12, ground := Ground.phase }, { on := 13, ground := Ground.phase }, { on := 14, ground := Ground.phase }, { on := 15, ground := Ground.phase }, { on := 16, ground := Ground.phase }, { on := 17, ground := Ground.phase }, { on := 18, ground := Ground.phase }, { on := 19, ground := Ground.phase }, { on := 20, ground := Ground.phase }, { on := 21, ground := Ground.phase }, { on := 22, ground := Ground.phase }, { on := 23, ground := Ground.phase }, { on := 24, ground := Ground.phase }, { on := 25, ground := Ground.phase }, { on := 26, ground := Ground.phase }], guard := none }) (v := ?v27u28) rfl (by kernel_rfl) (by kernel_rfl) (by kernel_rfl) (fun _ _ _ h => h) (Or.inl ⟨by rfl, ?y27u28⟩) (by assumption) ?r27u28
    case y27u28 => (intro w hSw; (try dsimp only at hSw); go_simp; try with_reducible rfl)
    try simp only [Act.put, List.setIfInBounds_toArray, List.set_cons_zero, List.set_cons_succ]
    refine wpAnyH_done (by kernel_rfl) ?_ _
    refine NoPanic.normal ?_
    go_wp2_with fail
    go_ret
    exact ⟨rfl, hHeld⟩
  · have hl0n : 0 < al := Nat.pos_of_ne_zero (fun h => hz (ha3.1 h))
    have hl0 : (0 : Int) < (al : Int) := by omega
    by_cases hlt : a < P
    · obtain ⟨Y, hY⟩ : ∃ Y, Y = a ^ Q % P := ⟨_, rfl⟩
      have hYb : ∃ bb : Bool, (Pl.cmp Y 1 == 0) = bb ∧ elB P Q a = bb := by
        by_cases h1 : Y = 1
        · exact ⟨true, by rw [cmp_eq h1]; rfl, elB_iff.2 ⟨by omega, hlt, hY ▸ h1⟩⟩
        · exact ⟨false, cmp_ne0 h1, elB_not fun he => h1 (hY.trans he.one)⟩
      obtain ⟨bb, hb1, hb2⟩ := hYb
      rw [hb2]
      have hcm := cmp_lt hlt
      replace hY := hid hY
      clear hz ha3 hb2 hlt
      go_enter Try.func17, Try.ntmps17
      go_upto_region 1 with (fail)
      go_region_held3 (fun w' => (w'.cell? ⟨b, 0, none⟩ = some (.slice A0 l0 c0) ∧ w'.cell? ⟨b, 1, none⟩ = some (.slice A1 l1 c1)) ∧ Below w.heap.size w w')
        (first | exact ⟨⟨k0, k1⟩, hSW⟩ | exact hSD)
        (first
        | (go_at_call 49
           have hH := ‹_ ∧ Below w.heap.size w _›
           refine (rexp_calls (RefN.below ha' hH.2) (RefN.below hq' hH.2) (RefN.below hp' hH.2) sa sq spp hP0).mono ?_
           rintro e wE ⟨⟨uE, rfl, huE⟩, hbE⟩
           have hbl := Nat.lt_of_lt_of_le hb hH.2.size
           have hSD := And.intro (And.intro ((hbE.cell (p := ⟨b, 0, none⟩) hbl).trans hH.1.1) ((hbE.cell (p := ⟨b, 1, none⟩) hbl).trans hH.1.2)) (below_trans hH.2 hbE)
           rw [← hY.out] at huE
           replace huE := ref_all huE
           clear hH hbl)
        | (go_at_call 44
           have hH := ‹_ ∧ Below w.heap.size w _›
           refine (rone_calls _).mono ?_
           rintro e wO ⟨⟨uO, rfl, huO⟩, hbO⟩
           have hbl := Nat.lt_of_lt_of_le hb hH.2.size
           have hSD := And.intro (And.intro ((hbO.cell (p := ⟨b, 0, none⟩) hbl).trans hH.1.1) ((hbO.cell (p := ⟨b, 1, none⟩) hbl).trans hH.1.2)) (below_trans hH.2 hbO)
           replace huO := ref_all huO
           clear hH hbl)
        | (go_at_call_of 48 (Value.slice AA al ac)
           have hH := ‹_ ∧ Below w.heap.size w _›
           refine (rcmp_calls (RefN.below ha' hH.2) (RefN.below hp' hH.2)).mono ?_
           rintro e wC ⟨rfl, hst⟩
           rw [hcm]
           have hbl := Nat.lt_of_lt_of_le hb hH.2.size
           have hSD := And.intro (And.intro ((hst.below.cell (p := ⟨b, 0, none⟩) hbl).trans hH.1.1) ((hst.below.cell (p := ⟨b, 1, none⟩) hbl).trans hH.1.2)) (below_trans hH.2 hst.below)
           clear hH hbl hst)
        | (go_at_call 48
           have hH := ‹_ ∧ Below w.heap.size w _›
           refine (rcmp_calls (RefN.below huE hbO) huO).mono ?_
           rintro e wD ⟨rfl, hst⟩
           have hbl := Nat.lt_of_lt_of_le hb hH.2.size
           have hSD := And.intro (And.intro ((hst.below.cell (p := ⟨b, 0, none⟩) hbl).trans hH.1.1) ((hst.below.cell (p := ⟨b, 1, none⟩) hbl).trans hH.1.2)) (below_trans hH.2 hst.below)
           clear hH hbl hst)
        | fail)
      all_goals
        go_wp2_with fail
        go_ret
        exact ⟨rfl, hSD.2⟩
    · have hf : elB P Q a = false := elB_not fun he => hlt he.lt
      rw [hf]
      have hge : Pl.cmp a P = 0 ∨ Pl.cmp a P = 1 := by
        rcases Nat.lt_or_ge P a with h | h
        · exact .inr (cmp_gt h)
        · exact .inl (cmp_eq (by omega))
      replace hge := hid hge
      clear hz hf ha3 hlt
      go_enter Try.func17, Try.ntmps17
      go_upto_region 1 with (fail)
      refine wp_region_noPanic ?_
      refine wp_region_held_drew (S := fun w' => w'.cell? ⟨b, 0, none⟩ = some (.slice A0 l0 c0) ∧ Below w.heap.size w w') (by kernel_rfl) ?hS1 (fun hHeld => ?_)
      case hS1 => exact ⟨k0, hSW⟩
      refine wpAnyH_take (i := 0) (oi := { dst := some 5, op := Op.move (Operand.tmp 1), type := 35, pos := "ref.go:23", after := #[], guard := none }) (v := ?v0u29) rfl (by kernel_rfl) (by kernel_rfl) (by kernel_rfl) (fun _ _ _ h => h) (Or.inl ⟨by rfl, ?y0u29⟩) (by assumption) ?r0u29
      case y0u29 => (intro w hSw; (try dsimp only at hSw); go_simp; try with_reducible rfl)
      try simp only [Act.put, List.setIfInBounds_toArray, List.set_cons_zero, List.set_cons_succ]
      refine wpAnyH_take (i := 1) (oi := { dst := some 6, op := Op.call { callee := Callee.builtin Builtin.len, args := #[Operand.tmp 5], argTypes := #[35] }, type := 3, pos := "ref.go:23", after := #[{ on := 0, ground := Ground.data }], guard := none }) (v := ?v1u30) rfl (by kernel_rfl) (by kernel_rfl) (by kernel_rfl) (fun _ _ _ h => h) (Or.inl ⟨by rfl, ?y1u30⟩) (by assumption) ?r1u30
      case y1u30 => (intro w hSw; (try dsimp only at hSw); go_simp; try with_reducible rfl)
      try simp only [Act.put, List.setIfInBounds_toArray, List.set_cons_zero, List.set_cons_succ]
      refine wpAnyH_take (i := 2) (oi := { dst := some 7, op := Op.binOp BinOp.gtr 3 (Operand.tmp 6) (Operand.const (Value.int IntKind.i64 0)) 3, type := 4, pos := "ref.go:23", after := #[{ on := 1, ground := Ground.data }], guard := none }) (v := ?v2u31) rfl (by kernel_rfl) (by kernel_rfl) (by kernel_rfl) (fun _ _ _ h => h) (Or.inl ⟨by rfl, ?y2u31⟩) (by assumption) ?r2u31
      case y2u31 => (intro w hSw; (try dsimp only at hSw); go_simp; try with_reducible rfl)
      try simp only [Act.put, List.setIfInBounds_toArray, List.set_cons_zero, List.set_cons_succ]
      refine wpAnyH_take (i := 3) (oi := { dst := some 8, op := Op.move (Operand.tmp 7), type := 4, pos := "ref.go:23", after := #[{ on := 2, ground := Ground.data }], guard := none }) (v := ?v3u32) rfl (by kernel_rfl) (by kernel_rfl) (by kernel_rfl) (fun _ _ _ h => h) (Or.inl ⟨by rfl, ?y3u32⟩) (by assumption) ?r3u32
      case y3u32 => (intro w hSw; (try dsimp only at hSw); go_simp; try with_reducible rfl)
      try simp only [Act.put, List.setIfInBounds_toArray, List.set_cons_zero, List.set_cons_succ]
      refine wpAnyH_take (i := 4) (oi := { dst := some 9, op := Op.move (Operand.tmp 1), type := 35, pos := "ref.go:23", after := #[{ on := 3, ground := Ground.guard }], guard := some (3, true) }) (v := ?v4u33) rfl (by kernel_rfl) (by kernel_rfl) (by kernel_rfl) (fun _ _ _ h => h) (Or.inl ⟨by rfl, ?y4u33⟩) (by assumption) ?r4u33
      case y4u33 => (intro w hSw; (try dsimp only at hSw); go_simp; try with_reducible rfl)
      try simp only [Act.put, List.setIfInBounds_toArray, List.set_cons_zero, List.set_cons_succ]
      refine wpAnyH_take (i := 5) (oi := { dst := some 10, op := Op.move (Operand.tmp 0), type := 27, pos := "ref.go:23", after := #[{ on := 3, ground := Ground.guard }], guard := some (3, true) }) (v := ?v5u34) rfl (by kernel_rfl) (by kernel_rfl) (by kernel_rfl) (fun _ _ _ h => h) (Or.inl ⟨by rfl, ?y5u34⟩) (by assumption) ?r5u34
      case y5u34 => (intro w hSw; (try dsimp only at hSw); go_simp; try with_reducible rfl)
      try simp only [Act.put, List.setIfInBounds_toArray, List.set_cons_zero, List.set_cons_succ]
      refine wpAnyH_take (i := 6) (oi := { dst := some 11, op := Op.nilCheck (Operand.tmp 10), type := 0, pos := "ref.go:23", after := #[{ on := 5, ground := Ground.data }, { on := 3, ground := Ground.guard }], guard := some (3, true) }) (v := ?v6u35) rfl (by kernel_rfl) (by kernel_rfl) (by kernel_rfl) (fun _ _ _ h => h) (Or.inl ⟨by rfl, ?y6u35⟩) (by assumption) ?r6u35
      case y6u35 => (intro w hSw; (try dsimp only at hSw); go_simp; try with_reducible rfl)
      try simp only [Act.put, List.setIfInBounds_toArray, List.set_cons_zero, List.set_cons_succ]
      refine wpAnyH_take (i := 7) (oi := { dst := some 12, op := Op.fieldAddr 37 (Operand.tmp 11) 0, type := 0, pos := "ref.go:23", after := #[{ on := 6, ground := Ground.data }, { on := 3, ground := Ground.guard }], guard := some (3, true) }) (v := ?v7u36) rfl (by kernel_rfl) (by kernel_rfl) (by kernel_rfl) (fun _ _ _ h => h) (Or.inl ⟨by rfl, ?y7u36⟩) (by assumption) ?r7u36
      case y7u36 => (intro w hSw; (try dsimp only at hSw); go_simp; try with_reducible rfl)
      try simp only [Act.put, List.setIfInBounds_toArray, List.set_cons_zero, List.set_cons_succ]
      refine wpAnyH_take (i := 8) (oi := { dst := some 13, op := Op.load 35 (Operand.tmp 12), type := 35, pos := "ref.go:23", after := #[{ on := 7, ground := Ground.data }, { on := 3, ground := Ground.guard }], guard := some (3, true) }) (v := ?v8u37) rfl (by kernel_rfl) (by kernel_rfl) (by kernel_rfl) (fun _ _ _ h => h) (Or.inl ⟨by rfl, ?y8u37⟩) (by assumption) ?r8u37
      case y8u37 => (intro w hSw; (try dsimp only at hSw); go_simp; try with_reducible rfl)
      try simp only [Act.put, List.setIfInBounds_toArray, List.set_cons_zero, List.set_cons_succ]
      refine wpAnyH_ready (rs := [9]) (by kernel_rfl) (by simp) ?_
      refine AllReadyH.cons (o := { dst := some 14, op := Op.call { callee := Callee.value (Operand.func 48), args := #[Operand.tmp 9, Operand.tmp 13], argTypes := #[35, 35] }, type := 3, pos := "ref.go:23", after := #[{ on := 4, ground := Ground.data }, { on := 8, ground := Ground.data }, { on := 3, ground := Ground.chain }, { on := 3, ground := Ground.guard }], guard := some (3, true) }) rfl (fun K hK => ?_) AllReadyH.nil
      go_simp
      go_at_call 48
      refine (rcmp_calls (RefN.below ha' hSW) (RefN.below hp' hSW)).mono ?_
      rintro e wC ⟨rfl, hst⟩
      rcases hge.out with hcv | hcv
      · rw [hcv]
        clear hcv
        have hSD := And.intro ((hst.below.cell (p := ⟨b, 0, none⟩) hb).trans k0) (below_trans hSW hst.below)
        refine hK.out _ _ hSD (fun hHeld2 => ?_)
        clear hK K hHeld
        try simp only [Act.put, List.setIfInBounds_toArray, List.set_cons_zero, List.set_cons_succ]
        refine wpAnyH_take (i := 10) (oi := { dst := some 15, op := Op.binOp BinOp.lss 3 (Operand.tmp 14) (Operand.const (Value.int IntKind.i64 0)) 3, type := 4, pos := "ref.go:23", after := #[{ on := 9, ground := Ground.data }, { on := 3, ground := Ground.guard }], guard := some (3, true) }) (v := ?v10u38) rfl (by kernel_rfl) (by kernel_rfl) (by kernel_rfl) (fun _ _ _ h => h) (Or.inl ⟨by rfl, ?y10u38⟩) (by assumption) ?r10u38
        case y10u38 => (intro w hSw; (try dsimp only at hSw); go_simp; try with_reducible rfl)
        try simp only [Act.put, List.setIfInBounds_toArray, List.set_cons_zero, List.set_cons_succ]
        refine wpAnyH_take (i := 11) (oi := { dst := some 16, op := Op.pick (Operand.tmp 8) (Operand.tmp 15) (Operand.const (Value.bool false)), type := 4, pos := "ref.go:23", after := #[{ on := 3, ground := Ground.data }, { on := 10, ground := Ground.data }], guard := none }) (v := ?v11u39) rfl (by kernel_rfl) (by kernel_rfl) (by kernel_rfl) (fun _ _ _ h => h) (Or.inl ⟨by rfl, ?y11u39⟩) (by assumption) ?r11u39
        case y11u39 => (intro w hSw; (try dsimp only at hSw); go_simp; try with_reducible rfl)
        try simp only [Act.put, List.setIfInBounds_toArray, List.set_cons_zero, List.set_cons_succ]
        refine wpAnyH_take (i := 12) (oi := { dst := some 17, op := Op.move (Operand.tmp 16), type := 4, pos := "ref.go:23", after := #[{ on := 11, ground := Ground.data }, { on := 9, ground := Ground.chain }], guard := none }) (v := ?v12u40) rfl (by kernel_rfl) (by kernel_rfl) (by kernel_rfl) (fun _ _ _ h => h) (Or.inl ⟨by rfl, ?y12u40⟩) (by assumption) ?r12u40
        case y12u40 => (intro w hSw; (try dsimp only at hSw); go_simp; try with_reducible rfl)
        try simp only [Act.put, List.setIfInBounds_toArray, List.set_cons_zero, List.set_cons_succ]
        refine wpAnyH_take (i := 13) (oi := { dst := some 18, op := Op.move (Operand.tmp 1), type := 35, pos := "ref.go:23", after := #[{ on := 12, ground := Ground.guard }], guard := some (12, true) }) (v := undef) rfl (by kernel_rfl) (by kernel_rfl) (by kernel_rfl) (fun _ _ _ h => h) (Or.inr ⟨by rfl, rfl⟩) (by assumption) ?_
        try simp only [Act.put, List.setIfInBounds_toArray, List.set_cons_zero, List.set_cons_succ]
        refine wpAnyH_take (i := 14) (oi := { dst := some 19, op := Op.move (Operand.tmp 0), type := 27, pos := "ref.go:23", after := #[{ on := 12, ground := Ground.guard }], guard := some (12, true) }) (v := undef) rfl (by kernel_rfl) (by kernel_rfl) (by kernel_rfl) (fun _ _ _ h => h) (Or.inr ⟨by rfl, rfl⟩) (by assumption) ?_
        try simp only [Act.put, List.setIfInBounds_toArray, List.set_cons_zero, List.set_cons_succ]
        refine wpAnyH_take (i := 15) (oi := { dst := some 20, op := Op.nilCheck (Operand.tmp 19), type := 0, pos := "ref.go:23", after := #[{ on := 14, ground := Ground.data }, { on := 12, ground := Ground.guard }], guard := some (12, true) }) (v := undef) rfl (by kernel_rfl) (by kernel_rfl) (by kernel_rfl) (fun _ _ _ h => h) (Or.inr ⟨by rfl, rfl⟩) (by assumption) ?_
        try simp only [Act.put, List.setIfInBounds_toArray, List.set_cons_zero, List.set_cons_succ]
        refine wpAnyH_take (i := 16) (oi := { dst := some 21, op := Op.fieldAddr 37 (Operand.tmp 20) 1, type := 0, pos := "ref.go:23", after := #[{ on := 15, ground := Ground.data }, { on := 12, ground := Ground.guard }], guard := some (12, true) }) (v := undef) rfl (by kernel_rfl) (by kernel_rfl) (by kernel_rfl) (fun _ _ _ h => h) (Or.inr ⟨by rfl, rfl⟩) (by assumption) ?_
        try simp only [Act.put, List.setIfInBounds_toArray, List.set_cons_zero, List.set_cons_succ]
        refine wpAnyH_take (i := 17) (oi := { dst := some 22, op := Op.load 35 (Operand.tmp 21), type := 35, pos := "ref.go:23", after := #[{ on := 16, ground := Ground.data }, { on := 12, ground := Ground.guard }], guard := some (12, true) }) (v := undef) rfl (by kernel_rfl) (by kernel_rfl) (by kernel_rfl) (fun _ _ _ h => h) (Or.inr ⟨by rfl, rfl⟩) (by assumption) ?_
        try simp only [Act.put, List.setIfInBounds_toArray, List.set_cons_zero, List.set_cons_succ]
        refine wpAnyH_take (i := 18) (oi := { dst := some 23, op := Op.move (Operand.tmp 0), type := 27, pos := "ref.go:23", after := #[{ on := 12, ground := Ground.guard }], guard := some (12, true) }) (v := undef) rfl (by kernel_rfl) (by kernel_rfl) (by kernel_rfl) (fun _ _ _ h => h) (Or.inr ⟨by rfl, rfl⟩) (by assumption) ?_
        try simp only [Act.put, List.setIfInBounds_toArray, List.set_cons_zero, List.set_cons_succ]
        refine wpAnyH_take (i := 19) (oi := { dst := some 24, op := Op.nilCheck (Operand.tmp 23), type := 0, pos := "ref.go:23", after := #[{ on := 18, ground := Ground.data }, { on := 12, ground := Ground.guard }], guard := some (12, true) }) (v := undef) rfl (by kernel_rfl) (by kernel_rfl) (by kernel_rfl) (fun _ _ _ h => h) (Or.inr ⟨by rfl, rfl⟩) (by assumption) ?_
        try simp only [Act.put, List.setIfInBounds_toArray, List.set_cons_zero, List.set_cons_succ]
        refine wpAnyH_take (i := 20) (oi := { dst := some 25, op := Op.fieldAddr 37 (Operand.tmp 24) 0, type := 0, pos := "ref.go:23", after := #[{ on := 19, ground := Ground.data }, { on := 12, ground := Ground.guard }], guard := some (12, true) }) (v := undef) rfl (by kernel_rfl) (by kernel_rfl) (by kernel_rfl) (fun _ _ _ h => h) (Or.inr ⟨by rfl, rfl⟩) (by assumption) ?_
        try simp only [Act.put, List.setIfInBounds_toArray, List.set_cons_zero, List.set_cons_succ]
        refine wpAnyH_take (i := 21) (oi := { dst := some 26, op := Op.load 35 (Operand.tmp 25), type := 35, pos := "ref.go:23", after := #[{ on := 20, ground := Ground.data }, { on := 12, ground := Ground.guard }], guard := some (12, true) }) (v := undef) rfl (by kernel_rfl) (by kernel_rfl) (by kernel_rfl) (fun _ _ _ h => h) (Or.inr ⟨by rfl, rfl⟩) (by assumption) ?_
        try simp only [Act.put, List.setIfInBounds_toArray, List.set_cons_zero, List.set_cons_succ]
        refine wpAnyH_take (i := 22) (oi := { dst := some 27, op := Op.call { callee := Callee.value (Operand.func 49), args := #[Operand.tmp 18, Operand.tmp 22, Operand.tmp 26], argTypes := #[35, 35, 35] }, type := 35, pos := "ref.go:23", after := #[{ on := 13, ground := Ground.data }, { on := 17, ground := Ground.data }, { on := 21, ground := Ground.data }, { on := 12, ground := Ground.chain }, { on := 12, ground := Ground.guard }], guard := some (12, true) }) (v := undef) rfl (by kernel_rfl) (by kernel_rfl) (by kernel_rfl) (fun _ _ _ h => h) (Or.inr ⟨by rfl, rfl⟩) (by assumption) ?_
        try simp only [Act.put, List.setIfInBounds_toArray, List.set_cons_zero, List.set_cons_succ]
        refine wpAnyH_take (i := 23) (oi := { dst := some 28, op := Op.call { callee := Callee.value (Operand.func 44), args := #[], argTypes := #[] }, type := 35, pos := "ref.go:23", after := #[{ on := 22, ground := Ground.chain }, { on := 12, ground := Ground.guard }], guard := some (12, true) }) (v := undef) rfl (by kernel_rfl) (by kernel_rfl) (by kernel_rfl) (fun _ _ _ h => h) (Or.inr ⟨by rfl, rfl⟩) (by assumption) ?_
        try simp only [Act.put, List.setIfInBounds_toArray, List.set_cons_zero, List.set_cons_succ]
        refine wpAnyH_take (i := 24) (oi := { dst := some 29, op := Op.call { callee := Callee.value (Operand.func 48), args := #[Operand.tmp 27, Operand.tmp 28], argTypes := #[35, 35] }, type := 3, pos := "ref.go:23", after := #[{ on := 22, ground := Ground.data }, { on := 23, ground := Ground.data }, { on := 23, ground := Ground.chain }, { on := 12, ground := Ground.guard }], guard := some (12, true) }) (v := undef) rfl (by kernel_rfl) (by kernel_rfl) (by kernel_rfl) (fun _ _ _ h => h) (Or.inr ⟨by rfl, rfl⟩) (by assumption) ?_
        try simp only [Act.put, List.setIfInBounds_toArray, List.set_cons_zero, List.set_cons_succ]
        refine wpAnyH_take (i := 25) (oi := { dst := some 30, op := Op.binOp BinOp.eql 3 (Operand.tmp 29) (Operand.const (Value.int IntKind.i64 0)) 3, type := 4, pos := "ref.go:23", after := #[{ on := 24, ground := Ground.data }, { on := 12, ground := Ground.guard }], guard := some (12, true) }) (v := undef) rfl (by kernel_rfl) (by kernel_rfl) (by kernel_rfl) (fun _ _ _ h => h) (Or.inr ⟨by rfl, rfl⟩) (by assumption) ?_
        try simp only [Act.put, List.setIfInBounds_toArray, List.set_cons_zero, List.set_cons_succ]
        refine wpAnyH_take (i := 26) (oi := { dst := some 31, op := Op.pick (Operand.tmp 17) (Operand.tmp 30) (Operand.const (Value.bool false)), type := 4, pos := "ref.go:23", after := #[{ on := 12, ground := Ground.data }, { on := 25, ground := Ground.data }], guard := none }) (v := ?v26u54) rfl (by kernel_rfl) (by kernel_rfl) (by kernel_rfl) (fun _ _ _ h => h) (Or.inl ⟨by rfl, ?y26u54⟩) (by assumption) ?r26u54
        case y26u54 => (intro w hSw; (try dsimp only at hSw); go_simp; try with_reducible rfl)
        try simp only [Act.put, List.setIfInBounds_toArray, List.set_cons_zero, List.set_cons_succ]
        refine wpAnyH_take (i := 27) (oi := { dst := some 4, op := Op.assign (Operand.tmp 31), type := 4, pos := "ref.go:23", after := #[{ on := 26, ground := Ground.data }, { on := 24, ground := Ground.chain }, { on := 0, ground := Ground.phase }, { on := 1, ground := Ground.phase }, { on := 2, ground := Ground.phase }, { on := 3, ground := Ground.phase }, { on := 4, ground := Ground.phase }, { on := 5, ground := Ground.phase }, { on := 6, ground := Ground.phase }, { on := 7, ground := Ground.phase }, { on := 8, ground := Ground.phase }, { on := 9, ground := Ground.phase }, { on := 10, ground := Ground.phase }, { on := 11, ground := Ground.phase }, { on := 12, ground := Ground.phase }, { on := 13, ground := Ground.phase }, { on := 14, ground := Ground.phase }, { on := 15, ground := Ground.phase }, { on := 16, ground := Ground.phase }, { on := 17, ground := Ground.phase }, { on := 18, ground := Ground.phase }, { on := 19, ground := Ground.phase }, { on := 20, ground := Ground.phase }, { on := 21, ground := Ground.phase }, { on := 22, ground := Ground.phase }, { on := 23, ground := Ground.phase }, { on := 24, ground := Ground.phase }, { on := 25, ground := Ground.phase }, { on := 26, ground := Ground.phase }], guard := none }) (v := ?v27u55) rfl (by kernel_rfl) (by kernel_rfl) (by kernel_rfl) (fun _ _ _ h => h) (Or.inl ⟨by rfl, ?y27u55⟩) (by assumption) ?r27u55
        case y27u55 => (intro w hSw; (try dsimp only at hSw); go_simp; try with_reducible rfl)
        try simp only [Act.put, List.setIfInBounds_toArray, List.set_cons_zero, List.set_cons_succ]
        refine wpAnyH_done (by kernel_rfl) ?_ _
        refine NoPanic.normal ?_
        go_wp2_with fail
        go_ret
        exact ⟨rfl, hHeld2.2⟩
      · rw [hcv]
        clear hcv
        have hSD := And.intro ((hst.below.cell (p := ⟨b, 0, none⟩) hb).trans k0) (below_trans hSW hst.below)
        refine hK.out _ _ hSD (fun hHeld2 => ?_)
        clear hK K hHeld
        try simp only [Act.put, List.setIfInBounds_toArray, List.set_cons_zero, List.set_cons_succ]
        refine wpAnyH_take (i := 10) (oi := { dst := some 15, op := Op.binOp BinOp.lss 3 (Operand.tmp 14) (Operand.const (Value.int IntKind.i64 0)) 3, type := 4, pos := "ref.go:23", after := #[{ on := 9, ground := Ground.data }, { on := 3, ground := Ground.guard }], guard := some (3, true) }) (v := ?v10u56) rfl (by kernel_rfl) (by kernel_rfl) (by kernel_rfl) (fun _ _ _ h => h) (Or.inl ⟨by rfl, ?y10u56⟩) (by assumption) ?r10u56
        case y10u56 => (intro w hSw; (try dsimp only at hSw); go_simp; try with_reducible rfl)
        try simp only [Act.put, List.setIfInBounds_toArray, List.set_cons_zero, List.set_cons_succ]
        refine wpAnyH_take (i := 11) (oi := { dst := some 16, op := Op.pick (Operand.tmp 8) (Operand.tmp 15) (Operand.const (Value.bool false)), type := 4, pos := "ref.go:23", after := #[{ on := 3, ground := Ground.data }, { on := 10, ground := Ground.data }], guard := none }) (v := ?v11u57) rfl (by kernel_rfl) (by kernel_rfl) (by kernel_rfl) (fun _ _ _ h => h) (Or.inl ⟨by rfl, ?y11u57⟩) (by assumption) ?r11u57
        case y11u57 => (intro w hSw; (try dsimp only at hSw); go_simp; try with_reducible rfl)
        try simp only [Act.put, List.setIfInBounds_toArray, List.set_cons_zero, List.set_cons_succ]
        refine wpAnyH_take (i := 12) (oi := { dst := some 17, op := Op.move (Operand.tmp 16), type := 4, pos := "ref.go:23", after := #[{ on := 11, ground := Ground.data }, { on := 9, ground := Ground.chain }], guard := none }) (v := ?v12u58) rfl (by kernel_rfl) (by kernel_rfl) (by kernel_rfl) (fun _ _ _ h => h) (Or.inl ⟨by rfl, ?y12u58⟩) (by assumption) ?r12u58
        case y12u58 => (intro w hSw; (try dsimp only at hSw); go_simp; try with_reducible rfl)
        try simp only [Act.put, List.setIfInBounds_toArray, List.set_cons_zero, List.set_cons_succ]
        refine wpAnyH_take (i := 13) (oi := { dst := some 18, op := Op.move (Operand.tmp 1), type := 35, pos := "ref.go:23", after := #[{ on := 12, ground := Ground.guard }], guard := some (12, true) }) (v := undef) rfl (by kernel_rfl) (by kernel_rfl) (by kernel_rfl) (fun _ _ _ h => h) (Or.inr ⟨by rfl, rfl⟩) (by assumption) ?_
        try simp only [Act.put, List.setIfInBounds_toArray, List.set_cons_zero, List.set_cons_succ]
        refine wpAnyH_take (i := 14) (oi := { dst := some 19, op := Op.move (Operand.tmp 0), type := 27, pos := "ref.go:23", after := #[{ on := 12, ground := Ground.guard }], guard := some (12, true) }) (v := undef) rfl (by kernel_rfl) (by kernel_rfl) (by kernel_rfl) (fun _ _ _ h => h) (Or.inr ⟨by rfl, rfl⟩) (by assumption) ?_
        try simp only [Act.put, List.setIfInBounds_toArray, List.set_cons_zero, List.set_cons_succ]
        refine wpAnyH_take (i := 15) (oi := { dst := some 20, op := Op.nilCheck (Operand.tmp 19), type := 0, pos := "ref.go:23", after := #[{ on := 14, ground := Ground.data }, { on := 12, ground := Ground.guard }], guard := some (12, true) }) (v := undef) rfl (by kernel_rfl) (by kernel_rfl) (by kernel_rfl) (fun _ _ _ h => h) (Or.inr ⟨by rfl, rfl⟩) (by assumption) ?_
        try simp only [Act.put, List.setIfInBounds_toArray, List.set_cons_zero, List.set_cons_succ]
        refine wpAnyH_take (i := 16) (oi := { dst := some 21, op := Op.fieldAddr 37 (Operand.tmp 20) 1, type := 0, pos := "ref.go:23", after := #[{ on := 15, ground := Ground.data }, { on := 12, ground := Ground.guard }], guard := some (12, true) }) (v := undef) rfl (by kernel_rfl) (by kernel_rfl) (by kernel_rfl) (fun _ _ _ h => h) (Or.inr ⟨by rfl, rfl⟩) (by assumption) ?_
        try simp only [Act.put, List.setIfInBounds_toArray, List.set_cons_zero, List.set_cons_succ]
        refine wpAnyH_take (i := 17) (oi := { dst := some 22, op := Op.load 35 (Operand.tmp 21), type := 35, pos := "ref.go:23", after := #[{ on := 16, ground := Ground.data }, { on := 12, ground := Ground.guard }], guard := some (12, true) }) (v := undef) rfl (by kernel_rfl) (by kernel_rfl) (by kernel_rfl) (fun _ _ _ h => h) (Or.inr ⟨by rfl, rfl⟩) (by assumption) ?_
        try simp only [Act.put, List.setIfInBounds_toArray, List.set_cons_zero, List.set_cons_succ]
        refine wpAnyH_take (i := 18) (oi := { dst := some 23, op := Op.move (Operand.tmp 0), type := 27, pos := "ref.go:23", after := #[{ on := 12, ground := Ground.guard }], guard := some (12, true) }) (v := undef) rfl (by kernel_rfl) (by kernel_rfl) (by kernel_rfl) (fun _ _ _ h => h) (Or.inr ⟨by rfl, rfl⟩) (by assumption) ?_
        try simp only [Act.put, List.setIfInBounds_toArray, List.set_cons_zero, List.set_cons_succ]
        refine wpAnyH_take (i := 19) (oi := { dst := some 24, op := Op.nilCheck (Operand.tmp 23), type := 0, pos := "ref.go:23", after := #[{ on := 18, ground := Ground.data }, { on := 12, ground := Ground.guard }], guard := some (12, true) }) (v := undef) rfl (by kernel_rfl) (by kernel_rfl) (by kernel_rfl) (fun _ _ _ h => h) (Or.inr ⟨by rfl, rfl⟩) (by assumption) ?_
        try simp only [Act.put, List.setIfInBounds_toArray, List.set_cons_zero, List.set_cons_succ]
        refine wpAnyH_take (i := 20) (oi := { dst := some 25, op := Op.fieldAddr 37 (Operand.tmp 24) 0, type := 0, pos := "ref.go:23", after := #[{ on := 19, ground := Ground.data }, { on := 12, ground := Ground.guard }], guard := some (12, true) }) (v := undef) rfl (by kernel_rfl) (by kernel_rfl) (by kernel_rfl) (fun _ _ _ h => h) (Or.inr ⟨by rfl, rfl⟩) (by assumption) ?_
        try simp only [Act.put, List.setIfInBounds_toArray, List.set_cons_zero, List.set_cons_succ]
        refine wpAnyH_take (i := 21) (oi := { dst := some 26, op := Op.load 35 (Operand.tmp 25), type := 35, pos := "ref.go:23", after := #[{ on := 20, ground := Ground.data }, { on := 12, ground := Ground.guard }], guard := some (12, true) }) (v := undef) rfl (by kernel_rfl) (by kernel_rfl) (by kernel_rfl) (fun _ _ _ h => h) (Or.inr ⟨by rfl, rfl⟩) (by assumption) ?_
        try simp only [Act.put, List.setIfInBounds_toArray, List.set_cons_zero, List.set_cons_succ]
        refine wpAnyH_take (i := 22) (oi := { dst := some 27, op := Op.call { callee := Callee.value (Operand.func 49), args := #[Operand.tmp 18, Operand.tmp 22, Operand.tmp 26], argTypes := #[35, 35, 35] }, type := 35, pos := "ref.go:23", after := #[{ on := 13, ground := Ground.data }, { on := 17, ground := Ground.data }, { on := 21, ground := Ground.data }, { on := 12, ground := Ground.chain }, { on := 12, ground := Ground.guard }], guard := some (12, true) }) (v := undef) rfl (by kernel_rfl) (by kernel_rfl) (by kernel_rfl) (fun _ _ _ h => h) (Or.inr ⟨by rfl, rfl⟩) (by assumption) ?_
        try simp only [Act.put, List.setIfInBounds_toArray, List.set_cons_zero, List.set_cons_succ]
        refine wpAnyH_take (i := 23) (oi := { dst := some 28, op := Op.call { callee := Callee.value (Operand.func 44), args := #[], argTypes := #[] }, type := 35, pos := "ref.go:23", after := #[{ on := 22, ground := Ground.chain }, { on := 12, ground := Ground.guard }], guard := some (12, true) }) (v := undef) rfl (by kernel_rfl) (by kernel_rfl) (by kernel_rfl) (fun _ _ _ h => h) (Or.inr ⟨by rfl, rfl⟩) (by assumption) ?_
        try simp only [Act.put, List.setIfInBounds_toArray, List.set_cons_zero, List.set_cons_succ]
        refine wpAnyH_take (i := 24) (oi := { dst := some 29, op := Op.call { callee := Callee.value (Operand.func 48), args := #[Operand.tmp 27, Operand.tmp 28], argTypes := #[35, 35] }, type := 3, pos := "ref.go:23", after := #[{ on := 22, ground := Ground.data }, { on := 23, ground := Ground.data }, { on := 23, ground := Ground.chain }, { on := 12, ground := Ground.guard }], guard := some (12, true) }) (v := undef) rfl (by kernel_rfl) (by kernel_rfl) (by kernel_rfl) (fun _ _ _ h => h) (Or.inr ⟨by rfl, rfl⟩) (by assumption) ?_
        try simp only [Act.put, List.setIfInBounds_toArray, List.set_cons_zero, List.set_cons_succ]
        refine wpAnyH_take (i := 25) (oi := { dst := some 30, op := Op.binOp BinOp.eql 3 (Operand.tmp 29) (Operand.const (Value.int IntKind.i64 0)) 3, type := 4, pos := "ref.go:23", after := #[{ on := 24, ground := Ground.data }, { on := 12, ground := Ground.guard }], guard := some (12, true) }) (v := undef) rfl (by kernel_rfl) (by kernel_rfl) (by kernel_rfl) (fun _ _ _ h => h) (Or.inr ⟨by rfl, rfl⟩) (by assumption) ?_
        try simp only [Act.put, List.setIfInBounds_toArray, List.set_cons_zero, List.set_cons_succ]
        refine wpAnyH_take (i := 26) (oi := { dst := some 31, op := Op.pick (Operand.tmp 17) (Operand.tmp 30) (Operand.const (Value.bool false)), type := 4, pos := "ref.go:23", after := #[{ on := 12, ground := Ground.data }, { on := 25, ground := Ground.data }], guard := none }) (v := ?v26u72) rfl (by kernel_rfl) (by kernel_rfl) (by kernel_rfl) (fun _ _ _ h => h) (Or.inl ⟨by rfl, ?y26u72⟩) (by assumption) ?r26u72
        case y26u72 => (intro w hSw; (try dsimp only at hSw); go_simp; try with_reducible rfl)
        try simp only [Act.put, List.setIfInBounds_toArray, List.set_cons_zero, List.set_cons_succ]
        refine wpAnyH_take (i := 27) (oi := { dst := some 4, op := Op.assign (Operand.tmp 31), type := 4, pos := "ref.go:23", after := #[{ on := 26, ground := Ground.data }, { on := 24, ground := Ground.chain }, { on := 0, ground := Ground.phase }, { on := 1, ground := Ground.phase }, { on := 2, ground := Ground.phase }, { on := 3, ground := Ground.phase }, { on := 4, ground := Ground.phase }, { on := 5, ground := Ground.phase }, { on := 6, ground := Ground.phase }, { on := 7, ground := Ground.phase }, { on := 8, ground := Ground.phase }, { on := 9, ground := Ground.phase }, { on := 10, ground := Ground.phase }, { on := 11, ground := Ground.phase }, { on := 12, ground := Ground.phase }, { on := 13, ground := Ground.phase }, { on := 14, ground := Ground.phase }, { on := 15, ground := Ground.phase }, { on := 16, ground := Ground.phase }, { on := 17, ground := Ground.phase }, { on := 18, ground := Ground.phase }, { on := 19, ground := Ground.phase }, { on := 20, ground := Ground.phase }, { on := 21, ground := Ground.phase }, { on := 22, ground := Ground.phase }, { on := 23, ground := Ground.phase }, { on := 24, ground := Ground.phase }, { on := 25, ground := Ground.phase }, { on := 26, ground := Ground.phase }], guard := none }) (v := ?v27u73) rfl (by kernel_rfl) (by kernel_rfl) (by kernel_rfl) (fun _ _ _ h => h) (Or.inl ⟨by rfl, ?y27u73⟩) (by assumption) ?r27u73
        case y27u73 => (intro w hSw; (try dsimp only at hSw); go_simp; try with_reducible rfl)
        try simp only [Act.put, List.setIfInBounds_toArray, List.set_cons_zero, List.set_cons_succ]
        refine wpAnyH_done (by kernel_rfl) ?_ _
        refine NoPanic.normal ?_
        go_wp2_with fail
        go_ret
        exact ⟨rfl, hHeld2.2⟩

end Go.Proofs.Ytphbacggmhjmgaa
