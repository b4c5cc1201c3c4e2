/- The layer group, first part: what a group is in memory; what it tells; Is. -/
import Derived.Test.YtphbacggmhjmgaaPrA
import Derived.Deep.RegionHeld3
namespace Go.Proofs.Ytphbacggmhjmgaa
open Go.RowKit

/-- p, q, g, how many bytes an element holds -/
abbrev G4 := Nat × Nat × Nat × Nat
def GrpP : Rep G4 := (Rep.ptr 72 (ModP.pair (NumN.pair (NumN.pair (ModP.pair (Rep.num .i64 1000000)))))).via fun x : G4 => (x.1, x.2.1, x.2.2.1, x.2.1, x.2.2.2)

theorem num_one {r : Rep Nat} {β : Nat → List Nat → Prop} (hr : r = NatS.ex β) {S : Nat → Prop} {w : World} {n : Nat} {cs : List Value} (h : r.rep S w n cs) : ∃ A l c, cs = [.slice A l c] := by
  subst hr
  obtain ⟨xs, ⟨A, cap, ys, rfl, _⟩, _⟩ := h
  exact ⟨A, _, cap, rfl⟩
theorem grp_open {S : Nat → Prop} {w : World} {x : G4} {v : Value} (h : GrpP.rep S w x [v]) :
    ∃ (b : Nat) (pv sv : Addr) (A1 : Option Addr) (l1 c1 : Nat) (A2 : Option Addr) (l2 c2 : Nat), v = .pointer (some ⟨b, 0, none⟩) ∧ S b ∧ b < w.heap.size ∧ ModP.rep S w x.1 [.pointer (some pv)] ∧ NumN.rep S w x.2.1 [.slice A1 l1 c1] ∧ NumN.rep S w x.2.2.1 [.slice A2 l2 c2] ∧ ModP.rep S w x.2.1 [.pointer (some sv)] ∧
      w.cell? ⟨b, 0, none⟩ = some (.pointer (some pv)) ∧ w.cell? ⟨b, 1, none⟩ = some (.slice A1 l1 c1) ∧ w.cell? ⟨b, 2, none⟩ = some (.slice A2 l2 c2) ∧ w.cell? ⟨b, 3, none⟩ = some (.pointer (some sv)) ∧ w.cell? ⟨b, 4, none⟩ = some (.int .i64 (x.2.2.2 : Int)) ∧ x.2.2.2 < 1000000 := by
  obtain ⟨b, ds, hv, hS, hb, hrow, a0, _, rfl, h0, a1, _, rfl, h1, a2, _, rfl, h2, a3, _, rfl, h3, rfl, h4⟩ := h
  obtain ⟨A1, l1, c1, rfl⟩ := num_one rfl h1
  obtain ⟨A2, l2, c2, rfl⟩ := num_one rfl h2
  obtain ⟨y0, ⟨g0, ds0, rfl, k0⟩, m0⟩ := id h0
  obtain ⟨y3, ⟨g3, ds3, rfl, k3⟩, m3⟩ := id h3
  simp only [List.cons.injEq, and_true] at hv
  have hrow' : Row w b 72 [.pointer (some ⟨g0, 0, none⟩), .slice A1 l1 c1, .slice A2 l2 c2, .pointer (some ⟨g3, 0, none⟩), .int .i64 (x.2.2.2 : Int)] := hrow
  exact ⟨b, ⟨g0, 0, none⟩, ⟨g3, 0, none⟩, A1, l1, c1, A2, l2, c2, hv, hS, hb, h0, h1, h2, h3, hrow'.cell 0 (by simp), hrow'.cell 1 (by simp), hrow'.cell 2 (by simp), hrow'.cell 3 (by simp), hrow'.cell 4 (by simp), h4⟩

theorem gsize_calls {S : Nat → Prop} {w : World} {x : G4} {v : Value} (h : GrpP.rep S w x [v]) :
    Calls Try.prog 33 #[v] w fun e w' => e = .returned (.int .i64 (x.2.2.2 : Int)) ∧ w = w' := by
  obtain ⟨b, pv, sv, A1, l1, c1, A2, l2, c2, rfl, hS, hb, h0, h1, h2, h3, k0, k1, k2, k3, k4, h4⟩ := grp_open h
  go_enter Try.func33, Try.ntmps33
  go_wp2
  go_ret
  exact ⟨rfl, rfl⟩
theorem gscalars_calls {S : Nat → Prop} {w : World} {x : G4} {v : Value} (h : GrpP.rep S w x [v]) :
    Calls Try.prog 21 #[v] w fun e w' => (∃ u, e = .returned (.pointer (some u)) ∧ ModP.rep S w x.2.1 [.pointer (some u)]) ∧ w = w' := by
  obtain ⟨b, pv, sv, A1, l1, c1, A2, l2, c2, rfl, hS, hb, h0, h1, h2, h3, k0, k1, k2, k3, k4, h4⟩ := grp_open h
  go_enter Try.func21, Try.ntmps21
  go_wp2
  go_ret
  exact ⟨⟨sv, rfl, h3⟩, rfl⟩
theorem numn_clone {S : Nat → Prop} {w : World} {n : Nat} {v : Value} (h : NumN.rep S w n [v]) :
    Calls Try.prog 59 #[v] w fun e w' => (∃ u, e = .returned u ∧ NumN.rep (Fresh w w') w' n [u]) ∧ Below w.heap.size w w' := by
  obtain ⟨xs, hx, hc⟩ := h
  refine (clone_calls hx).mono ?_
  rintro e w' ⟨⟨u, rfl, hu⟩, hb⟩
  exact ⟨⟨u, rfl, xs, hu, hc⟩, hb⟩
theorem gq_calls {S : Nat → Prop} {w : World} {x : G4} {v : Value} (h : GrpP.rep S w x [v]) :
    Calls Try.prog 32 #[v] w fun e w' => (∃ u, e = .returned u ∧ NumN.rep (Fresh w w') w' x.2.1 [u]) ∧ Below w.heap.size w w' := by
  obtain ⟨b, pv, sv, A1, l1, c1, A2, l2, c2, rfl, hS, hb, h0, h1, h2, h3, k0, k1, k2, k3, k4, h4⟩ := grp_open h
  go_enter Try.func32, Try.ntmps32
  go_wp2_with fail
  refine (numn_clone h1).mono ?_
  rintro e w' ⟨⟨u, rfl, hu⟩, hb⟩
  go_wp2_with fail
  go_ret
  exact ⟨⟨u, rfl, hu⟩, hb⟩
theorem gp_calls {S : Nat → Prop} {w : World} {x : G4} {v : Value} (h : GrpP.rep S w x [v]) :
    Calls Try.prog 26 #[v] w fun e w' => (∃ u, e = .returned u ∧ NumN.rep (Fresh w w') w' x.1 [u]) ∧ Below w.heap.size w w' := by
  obtain ⟨b, pv, sv, A1, l1, c1, A2, l2, c2, rfl, hS, hb, h0, h1, h2, h3, k0, k1, k2, k3, k4, h4⟩ := grp_open h
  obtain ⟨g, A, cap, inv, tv, ms, e0, hS0, d0, d1, d2, hms, hinv, htv, hcap, hcm, hpos, hok⟩ := mod_open h0
  simp only [Value.pointer.injEq, Option.some.injEq] at e0
  subst e0
  have hn : NumN.rep S w x.1 [.slice A ms.length cap] := ⟨ms, hms, hok.canon, hok.val⟩
  go_enter Try.func26, Try.ntmps26
  go_wp2_with fail
  refine (modulus_calls hn).mono ?_
  rintro e w' ⟨⟨u, rfl, hu⟩, hb⟩
  go_wp2_with fail
  go_ret
  exact ⟨⟨u, rfl, hu⟩, hb⟩

end Go.Proofs.Ytphbacggmhjmgaa
