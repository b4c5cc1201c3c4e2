/- The groups that are known, told: one law a step. (Printed by gen_known2.py.) -/
import Derived.Test.YtphbacggmhjmgaaKnownA
namespace Go.Proofs.Ytphbacggmhjmgaa
open Go.RowKit

section
variable {ops : Array Oper} {rest : List Oper} {l : List Value} {Q : Exit → Act → World → Prop} {w w0 : World} {d : Tmp} {ty : TypeId} {pos : String} {af : Array Edge} {os : List Obj} {B j j' : Nat}
theorem load_group {W : World} {b : Nat} {v0 v1 : Value} (k0 : W.cell? ⟨b, 0, none⟩ = some v0) (k1 : W.cell? ⟨b, 1, none⟩ = some v1) : (loadVar 55 ⟨b, 0, none⟩).run Try.prog W = .ok (.agg #[v0, v1]) W := by
  simp [loadVar, go_sem, k0, k1, Result.andThen]
theorem ret_group {fn : Func} {p : Tmp} (h : fn.results = #[.cell p 55]) (tmps : Array Value) {W : World} {b : Nat} {v0 v1 : Value} (hp : tmps.getD p undef = .pointer (some ⟨b, 0, none⟩)) (k0 : W.cell? ⟨b, 0, none⟩ = some v0) (k1 : W.cell? ⟨b, 1, none⟩ = some v1) :
    (results fn tmps).run Try.prog W = .ok (.agg #[v0, v1]) W := by
  have hp' : tmps[p]?.getD undef = .pointer (some ⟨b, 0, none⟩) := by rw [← hp]; simp
  simp only [results, h]
  simp [hp', asAddr, load_group k0 k1]
theorem put_list (l : List Value) (d : Tmp) (v : Value) : (⟨l.toArray, []⟩ : Act).put (some d) v = ⟨(l.set d v).toArray, []⟩ := by simp [Act.put]
theorem get_list {l : List Value} {t : Nat} {v : Value} (h : l[t]?.getD undef = v) : (⟨l.toArray, []⟩ : Act).tmps[t]?.getD undef = v := by simpa using h
theorem L_flat {l l' : List Value} (h : l = l') (k : wpList Try.prog ops Q rest ⟨l'.toArray, []⟩ w) : wpList Try.prog ops Q rest ⟨l.toArray, []⟩ w := by subst h; exact k
theorem L_build {op : Op} {v : Value} (hrun : ∀ K : Act → World → Prop, ∀ W : World, K (Act.put ⟨l.toArray, []⟩ (some d) v) W → Oper.wp Try.prog ⟨some d, op, ty, pos, af, none⟩ ⟨l.toArray, []⟩ W K Q)
    (h : wpList Try.prog ops Q rest ⟨(l.set d v).toArray, []⟩ w) : wpList Try.prog ops Q (⟨some d, op, ty, pos, af, none⟩ :: rest) ⟨l.toArray, []⟩ w := by
  rw [← put_list] at h
  exact wpList_plain rfl fun K hK => hrun K w (hK _ _ h)
theorem L_step {t0 t1 t2 : Tmp} {A0 A1 A2 : Option Addr} {n0 n1 n2 c0 c1 c2 : Nat} (e0 : l[t0]?.getD undef = .slice A0 n0 c0) (e1 : l[t1]?.getD undef = .slice A1 n1 c1) (e2 : l[t2]?.getD undef = .slice A2 n2 c2)
    (h : wpList Try.prog ops Q rest ⟨(l.set d (.agg #[.slice A0 n0 c0, .slice A1 n1 c1, .slice A2 n2 c2])).toArray, []⟩ w) : wpList Try.prog ops Q (⟨some d, .build 67 #[(0, .tmp t0), (1, .tmp t1), (2, .tmp t2)], ty, pos, af, none⟩ :: rest) ⟨l.toArray, []⟩ w := by
  refine L_build (fun K W hK => ?_) h
  unfold Oper.wp execOp
  go_simp
  simpa [Act.put] using hK
theorem L_grp {t0 t1 : Tmp} {A0 A1 : Option Addr} {n0 n1 c0 c1 : Nat} (e0 : l[t0]?.getD undef = .slice A0 n0 c0) (e1 : l[t1]?.getD undef = .slice A1 n1 c1)
    (h : wpList Try.prog ops Q rest ⟨(l.set d (.agg #[.slice A0 n0 c0, .slice A1 n1 c1])).toArray, []⟩ w) : wpList Try.prog ops Q (⟨some d, .build 55 #[(0, .tmp t0), (1, .tmp t1)], ty, pos, af, none⟩ :: rest) ⟨l.toArray, []⟩ w := by
  refine L_build (fun K W hK => ?_) h
  unfold Oper.wp execOp
  go_simp
  simpa [Act.put] using hK
theorem L_nat1 (x0 : Int) (hw : Hid (w = revAllocs w0 os)) (hs : Hid (w.heap.size = B + j)) (hj : j + 1 = j')
    (h : ∀ W', Hid (W' = revAllocs w0 (.cells #[.int .u64 x0] 65 :: os)) → Hid (W'.heap.size = B + j') → wpList Try.prog ops Q rest ⟨(l.set d (.slice (some ⟨B + j, 0, none⟩) 1 1)).toArray, []⟩ W') :
    wpList Try.prog ops Q (⟨some d, .buildSlice 24 1 #[(0, .const (.int .u64 x0))], ty, pos, af, none⟩ :: rest) ⟨l.toArray, []⟩ w :=
  lit_nat1 x0 hw hs hj fun W' h1 h2 => by rw [put_list]; exact h W' h1 h2
theorem L_nat2 (x0 x1 : Int) (hw : Hid (w = revAllocs w0 os)) (hs : Hid (w.heap.size = B + j)) (hj : j + 1 = j')
    (h : ∀ W', Hid (W' = revAllocs w0 (.cells #[.int .u64 x0, .int .u64 x1] 65 :: os)) → Hid (W'.heap.size = B + j') → wpList Try.prog ops Q rest ⟨(l.set d (.slice (some ⟨B + j, 0, none⟩) 2 2)).toArray, []⟩ W') :
    wpList Try.prog ops Q (⟨some d, .buildSlice 24 2 #[(0, .const (.int .u64 x0)), (1, .const (.int .u64 x1))], ty, pos, af, none⟩ :: rest) ⟨l.toArray, []⟩ w :=
  lit_nat2 x0 x1 hw hs hj fun W' h1 h2 => by rw [put_list]; exact h W' h1 h2
theorem L_nat3 (x0 x1 x2 : Int) (hw : Hid (w = revAllocs w0 os)) (hs : Hid (w.heap.size = B + j)) (hj : j + 1 = j')
    (h : ∀ W', Hid (W' = revAllocs w0 (.cells #[.int .u64 x0, .int .u64 x1, .int .u64 x2] 65 :: os)) → Hid (W'.heap.size = B + j') → wpList Try.prog ops Q rest ⟨(l.set d (.slice (some ⟨B + j, 0, none⟩) 3 3)).toArray, []⟩ W') :
    wpList Try.prog ops Q (⟨some d, .buildSlice 24 3 #[(0, .const (.int .u64 x0)), (1, .const (.int .u64 x1)), (2, .const (.int .u64 x2))], ty, pos, af, none⟩ :: rest) ⟨l.toArray, []⟩ w :=
  lit_nat3 x0 x1 x2 hw hs hj fun W' h1 h2 => by rw [put_list]; exact h W' h1 h2
theorem L_nat4 (x0 x1 x2 x3 : Int) (hw : Hid (w = revAllocs w0 os)) (hs : Hid (w.heap.size = B + j)) (hj : j + 1 = j')
    (h : ∀ W', Hid (W' = revAllocs w0 (.cells #[.int .u64 x0, .int .u64 x1, .int .u64 x2, .int .u64 x3] 65 :: os)) → Hid (W'.heap.size = B + j') → wpList Try.prog ops Q rest ⟨(l.set d (.slice (some ⟨B + j, 0, none⟩) 4 4)).toArray, []⟩ W') :
    wpList Try.prog ops Q (⟨some d, .buildSlice 24 4 #[(0, .const (.int .u64 x0)), (1, .const (.int .u64 x1)), (2, .const (.int .u64 x2)), (3, .const (.int .u64 x3))], ty, pos, af, none⟩ :: rest) ⟨l.toArray, []⟩ w :=
  lit_nat4 x0 x1 x2 x3 hw hs hj fun W' h1 h2 => by rw [put_list]; exact h W' h1 h2
theorem L_chain1 {p0 q0 a0 : Value} {t0 : Tmp} (e0 : l[t0]?.getD undef = .agg #[p0, q0, a0]) (hw : Hid (w = revAllocs w0 os)) (hs : Hid (w.heap.size = B + j)) (hj : j + 1 = j')
    (h : ∀ W', Hid (W' = revAllocs w0 (.cells #[p0, q0, a0] 67 :: os)) → Hid (W'.heap.size = B + j') → wpList Try.prog ops Q rest ⟨(l.set d (.slice (some ⟨B + j, 0, none⟩) 1 1)).toArray, []⟩ W') :
    wpList Try.prog ops Q (⟨some d, .buildSlice 53 1 #[(0, .tmp t0)], ty, pos, af, none⟩ :: rest) ⟨l.toArray, []⟩ w :=
  lit_chain1 (get_list e0) hw hs hj fun W' h1 h2 => by rw [put_list]; exact h W' h1 h2
theorem L_chain2 {p0 q0 a0 p1 q1 a1 : Value} {t0 t1 : Tmp} (e0 : l[t0]?.getD undef = .agg #[p0, q0, a0]) (e1 : l[t1]?.getD undef = .agg #[p1, q1, a1]) (hw : Hid (w = revAllocs w0 os)) (hs : Hid (w.heap.size = B + j)) (hj : j + 1 = j')
    (h : ∀ W', Hid (W' = revAllocs w0 (.cells #[p0, q0, a0, p1, q1, a1] 67 :: os)) → Hid (W'.heap.size = B + j') → wpList Try.prog ops Q rest ⟨(l.set d (.slice (some ⟨B + j, 0, none⟩) 2 2)).toArray, []⟩ W') :
    wpList Try.prog ops Q (⟨some d, .buildSlice 53 2 #[(0, .tmp t0), (1, .tmp t1)], ty, pos, af, none⟩ :: rest) ⟨l.toArray, []⟩ w :=
  lit_chain2 (get_list e0) (get_list e1) hw hs hj fun W' h1 h2 => by rw [put_list]; exact h W' h1 h2
theorem L_chain3 {p0 q0 a0 p1 q1 a1 p2 q2 a2 : Value} {t0 t1 t2 : Tmp} (e0 : l[t0]?.getD undef = .agg #[p0, q0, a0]) (e1 : l[t1]?.getD undef = .agg #[p1, q1, a1]) (e2 : l[t2]?.getD undef = .agg #[p2, q2, a2]) (hw : Hid (w = revAllocs w0 os)) (hs : Hid (w.heap.size = B + j)) (hj : j + 1 = j')
    (h : ∀ W', Hid (W' = revAllocs w0 (.cells #[p0, q0, a0, p1, q1, a1, p2, q2, a2] 67 :: os)) → Hid (W'.heap.size = B + j') → wpList Try.prog ops Q rest ⟨(l.set d (.slice (some ⟨B + j, 0, none⟩) 3 3)).toArray, []⟩ W') :
    wpList Try.prog ops Q (⟨some d, .buildSlice 53 3 #[(0, .tmp t0), (1, .tmp t1), (2, .tmp t2)], ty, pos, af, none⟩ :: rest) ⟨l.toArray, []⟩ w :=
  lit_chain3 (get_list e0) (get_list e1) (get_list e2) hw hs hj fun W' h1 h2 => by rw [put_list]; exact h W' h1 h2
theorem L_chain4 {p0 q0 a0 p1 q1 a1 p2 q2 a2 p3 q3 a3 : Value} {t0 t1 t2 t3 : Tmp} (e0 : l[t0]?.getD undef = .agg #[p0, q0, a0]) (e1 : l[t1]?.getD undef = .agg #[p1, q1, a1]) (e2 : l[t2]?.getD undef = .agg #[p2, q2, a2]) (e3 : l[t3]?.getD undef = .agg #[p3, q3, a3]) (hw : Hid (w = revAllocs w0 os)) (hs : Hid (w.heap.size = B + j)) (hj : j + 1 = j')
    (h : ∀ W', Hid (W' = revAllocs w0 (.cells #[p0, q0, a0, p1, q1, a1, p2, q2, a2, p3, q3, a3] 67 :: os)) → Hid (W'.heap.size = B + j') → wpList Try.prog ops Q rest ⟨(l.set d (.slice (some ⟨B + j, 0, none⟩) 4 4)).toArray, []⟩ W') :
    wpList Try.prog ops Q (⟨some d, .buildSlice 53 4 #[(0, .tmp t0), (1, .tmp t1), (2, .tmp t2), (3, .tmp t3)], ty, pos, af, none⟩ :: rest) ⟨l.toArray, []⟩ w :=
  lit_chain4 (get_list e0) (get_list e1) (get_list e2) (get_list e3) hw hs hj fun W' h1 h2 => by rw [put_list]; exact h W' h1 h2
theorem L_chain5 {p0 q0 a0 p1 q1 a1 p2 q2 a2 p3 q3 a3 p4 q4 a4 : Value} {t0 t1 t2 t3 t4 : Tmp} (e0 : l[t0]?.getD undef = .agg #[p0, q0, a0]) (e1 : l[t1]?.getD undef = .agg #[p1, q1, a1]) (e2 : l[t2]?.getD undef = .agg #[p2, q2, a2]) (e3 : l[t3]?.getD undef = .agg #[p3, q3, a3]) (e4 : l[t4]?.getD undef = .agg #[p4, q4, a4]) (hw : Hid (w = revAllocs w0 os)) (hs : Hid (w.heap.size = B + j)) (hj : j + 1 = j')
    (h : ∀ W', Hid (W' = revAllocs w0 (.cells #[p0, q0, a0, p1, q1, a1, p2, q2, a2, p3, q3, a3, p4, q4, a4] 67 :: os)) → Hid (W'.heap.size = B + j') → wpList Try.prog ops Q rest ⟨(l.set d (.slice (some ⟨B + j, 0, none⟩) 5 5)).toArray, []⟩ W') :
    wpList Try.prog ops Q (⟨some d, .buildSlice 53 5 #[(0, .tmp t0), (1, .tmp t1), (2, .tmp t2), (3, .tmp t3), (4, .tmp t4)], ty, pos, af, none⟩ :: rest) ⟨l.toArray, []⟩ w :=
  lit_chain5 (get_list e0) (get_list e1) (get_list e2) (get_list e3) (get_list e4) hw hs hj fun W' h1 h2 => by rw [put_list]; exact h W' h1 h2
theorem L_chain6 {p0 q0 a0 p1 q1 a1 p2 q2 a2 p3 q3 a3 p4 q4 a4 p5 q5 a5 : Value} {t0 t1 t2 t3 t4 t5 : Tmp} (e0 : l[t0]?.getD undef = .agg #[p0, q0, a0]) (e1 : l[t1]?.getD undef = .agg #[p1, q1, a1]) (e2 : l[t2]?.getD undef = .agg #[p2, q2, a2]) (e3 : l[t3]?.getD undef = .agg #[p3, q3, a3]) (e4 : l[t4]?.getD undef = .agg #[p4, q4, a4]) (e5 : l[t5]?.getD undef = .agg #[p5, q5, a5]) (hw : Hid (w = revAllocs w0 os)) (hs : Hid (w.heap.size = B + j)) (hj : j + 1 = j')
    (h : ∀ W', Hid (W' = revAllocs w0 (.cells #[p0, q0, a0, p1, q1, a1, p2, q2, a2, p3, q3, a3, p4, q4, a4, p5, q5, a5] 67 :: os)) → Hid (W'.heap.size = B + j') → wpList Try.prog ops Q rest ⟨(l.set d (.slice (some ⟨B + j, 0, none⟩) 6 6)).toArray, []⟩ W') :
    wpList Try.prog ops Q (⟨some d, .buildSlice 53 6 #[(0, .tmp t0), (1, .tmp t1), (2, .tmp t2), (3, .tmp t3), (4, .tmp t4), (5, .tmp t5)], ty, pos, af, none⟩ :: rest) ⟨l.toArray, []⟩ w :=
  lit_chain6 (get_list e0) (get_list e1) (get_list e2) (get_list e3) (get_list e4) (get_list e5) hw hs hj fun W' h1 h2 => by rw [put_list]; exact h W' h1 h2
theorem L_all {g0 c0 g1 c1 g2 c2 g3 c3 g4 c4 g5 c5 g6 c6 g7 c7 g8 c8 g9 c9 g10 c10 : Value} {t0 t1 t2 t3 t4 t5 t6 t7 t8 t9 t10 : Tmp} (e0 : l[t0]?.getD undef = .agg #[g0, c0]) (e1 : l[t1]?.getD undef = .agg #[g1, c1]) (e2 : l[t2]?.getD undef = .agg #[g2, c2]) (e3 : l[t3]?.getD undef = .agg #[g3, c3]) (e4 : l[t4]?.getD undef = .agg #[g4, c4]) (e5 : l[t5]?.getD undef = .agg #[g5, c5]) (e6 : l[t6]?.getD undef = .agg #[g6, c6]) (e7 : l[t7]?.getD undef = .agg #[g7, c7]) (e8 : l[t8]?.getD undef = .agg #[g8, c8]) (e9 : l[t9]?.getD undef = .agg #[g9, c9]) (e10 : l[t10]?.getD undef = .agg #[g10, c10]) (hw : Hid (w = revAllocs w0 os)) (hs : Hid (w.heap.size = B + j)) (hj : j + 1 = j')
    (h : ∀ W', Hid (W' = revAllocs w0 (.cells #[g0, c0, g1, c1, g2, c2, g3, c3, g4, c4, g5, c5, g6, c6, g7, c7, g8, c8, g9, c9, g10, c10] 55 :: os)) → Hid (W'.heap.size = B + j') → wpList Try.prog ops Q rest ⟨(l.set d (.slice (some ⟨B + j, 0, none⟩) 11 11)).toArray, []⟩ W') :
    wpList Try.prog ops Q (⟨some d, .buildSlice 91 11 #[(0, .tmp t0), (1, .tmp t1), (2, .tmp t2), (3, .tmp t3), (4, .tmp t4), (5, .tmp t5), (6, .tmp t6), (7, .tmp t7), (8, .tmp t8), (9, .tmp t9), (10, .tmp t10)], ty, pos, af, none⟩ :: rest) ⟨l.toArray, []⟩ w :=
  lit_all (get_list e0) (get_list e1) (get_list e2) (get_list e3) (get_list e4) (get_list e5) (get_list e6) (get_list e7) (get_list e8) (get_list e9) (get_list e10) hw hs hj fun W' h1 h2 => by rw [put_list]; exact h W' h1 h2
theorem L_alloc (h : wpList Try.prog ops Q rest ⟨(l.set d (.pointer (some ⟨w.heap.size, 0, none⟩))).toArray, []⟩ (w.alloc (.cells #[.slice none 0 0, .slice none 0 0] 55))) :
    wpList Try.prog ops Q (⟨some d, .alloc 55, ty, pos, af, none⟩ :: rest) ⟨l.toArray, []⟩ w := by
  rw [← put_list] at h
  refine wpList_plain rfl fun K hK => ?_
  replace hK := hK _ _ h
  clear h
  unfold Oper.wp execOp
  go_simp
  simpa [Act.put] using hK
end

/-- which one is told at a place -/
def knownI (i : Int) : Nat := (if i < 0 then -(i + 1) else i).toNat % 11

end Go.Proofs.Ytphbacggmhjmgaa
