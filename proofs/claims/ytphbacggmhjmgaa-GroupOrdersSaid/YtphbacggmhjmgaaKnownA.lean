/- The groups that are known, told: the memory that they are told in, and the walk. (Printed by gen_known2.py.) -/
import Derived.Test.YtphbacggmhjmgaaPlKnown
namespace Go.Proofs.Ytphbacggmhjmgaa
open Go.RowKit

/-- what was made, the last first -/
def revAllocs (w : World) : List Obj → World
  | [] => w
  | o :: os => (revAllocs w os).alloc o
theorem revAllocs_size (w : World) : ∀ os, (revAllocs w os).heap.size = w.heap.size + os.length
  | [] => rfl
  | o :: os => by
    have := revAllocs_size w os
    simp only [revAllocs, List.length_cons]
    rw [show ((revAllocs w os).alloc o).heap.size = (revAllocs w os).heap.size + 1 by simp, this]; omega
theorem revAllocs_below (w : World) : ∀ os, Below w.heap.size w (revAllocs w os)
  | [] => Below.refl _ _
  | o :: os => below_alloc (revAllocs_below w os) o
theorem revAllocs_row (w : World) {cs : List Value} {e : TypeId} : ∀ (os : List Obj) (j : Nat), j < os.length → os[os.length - 1 - j]? = some (.cells cs.toArray e) → Row (revAllocs w os) (w.heap.size + j) e cs
  | [], j, h, _ => by simp at h
  | o :: os, j, h, he => by
    simp only [List.length_cons] at h he
    rcases Nat.lt_or_ge j os.length with h1 | h1
    · have ih := revAllocs_row w os j h1 (by rw [show os.length + 1 - 1 - j = os.length - 1 - j + 1 by omega, List.getElem?_cons_succ] at he; exact he)
      exact ih.alloc o
    · obtain rfl : os.length = j := by omega
      rw [show os.length + 1 - 1 - os.length = 0 by omega, List.getElem?_cons_zero] at he
      injection he with he
      subst he
      have := Row.new (revAllocs w os) e cs.toArray
      rw [revAllocs_size] at this
      exact this

section
variable {ops : Array Oper} {rest : List Oper} {a : Act} {Q : Exit → Act → World → Prop} {w w0 : World} {d : Tmp} {ty : TypeId} {pos : String} {af : Array Edge} {os : List Obj} {B j j' : Nat}
theorem lit_step {op : Op} {v : Value} {ob : Obj} (hrun : ∀ K : Act → World → Prop, ∀ W : World, W.heap.size = B + j → K (a.put (some d) v) (W.alloc ob) → Oper.wp Try.prog ⟨some d, op, ty, pos, af, none⟩ a W K Q)
    (hw : Hid (w = revAllocs w0 os)) (hs : Hid (w.heap.size = B + j)) (hj : j + 1 = j')
    (h : ∀ W', Hid (W' = revAllocs w0 (ob :: os)) → Hid (W'.heap.size = B + j') → wpList Try.prog ops Q rest (a.put (some d) v) W') : wpList Try.prog ops Q (⟨some d, op, ty, pos, af, none⟩ :: rest) a w := by
  refine wpList_plain rfl fun K hK => ?_
  refine hrun K w hs.out (hK _ _ (h _ ?_ ?_))
  · show _ = _
    rw [hw.out]; rfl
  · show _ = _
    rw [show (w.alloc ob).heap.size = w.heap.size + 1 by simp, hs.out]; omega

theorem lit_nat1 (x0 : Int) (hw : Hid (w = revAllocs w0 os)) (hs : Hid (w.heap.size = B + j)) (hj : j + 1 = j')
    (h : ∀ W', Hid (W' = revAllocs w0 (.cells #[.int .u64 x0] 65 :: os)) → Hid (W'.heap.size = B + j') → wpList Try.prog ops Q rest (a.put (some d) (.slice (some ⟨B + j, 0, none⟩) 1 1)) W') :
    wpList Try.prog ops Q (⟨some d, .buildSlice 24 1 #[(0, .const (.int .u64 x0))], ty, pos, af, none⟩ :: rest) a w := by
  refine lit_step (fun K W hW hK => ?_) hw hs hj h
  unfold Oper.wp execOp
  go_simp
  exact hK
theorem lit_nat2 (x0 x1 : Int) (hw : Hid (w = revAllocs w0 os)) (hs : Hid (w.heap.size = B + j)) (hj : j + 1 = j')
    (h : ∀ W', Hid (W' = revAllocs w0 (.cells #[.int .u64 x0, .int .u64 x1] 65 :: os)) → Hid (W'.heap.size = B + j') → wpList Try.prog ops Q rest (a.put (some d) (.slice (some ⟨B + j, 0, none⟩) 2 2)) W') :
    wpList Try.prog ops Q (⟨some d, .buildSlice 24 2 #[(0, .const (.int .u64 x0)), (1, .const (.int .u64 x1))], ty, pos, af, none⟩ :: rest) a w := by
  refine lit_step (fun K W hW hK => ?_) hw hs hj h
  unfold Oper.wp execOp
  go_simp
  exact hK
theorem lit_nat3 (x0 x1 x2 : Int) (hw : Hid (w = revAllocs w0 os)) (hs : Hid (w.heap.size = B + j)) (hj : j + 1 = j')
    (h : ∀ W', Hid (W' = revAllocs w0 (.cells #[.int .u64 x0, .int .u64 x1, .int .u64 x2] 65 :: os)) → Hid (W'.heap.size = B + j') → wpList Try.prog ops Q rest (a.put (some d) (.slice (some ⟨B + j, 0, none⟩) 3 3)) W') :
    wpList Try.prog ops Q (⟨some d, .buildSlice 24 3 #[(0, .const (.int .u64 x0)), (1, .const (.int .u64 x1)), (2, .const (.int .u64 x2))], ty, pos, af, none⟩ :: rest) a w := by
  refine lit_step (fun K W hW hK => ?_) hw hs hj h
  unfold Oper.wp execOp
  go_simp
  exact hK
theorem lit_nat4 (x0 x1 x2 x3 : Int) (hw : Hid (w = revAllocs w0 os)) (hs : Hid (w.heap.size = B + j)) (hj : j + 1 = j')
    (h : ∀ W', Hid (W' = revAllocs w0 (.cells #[.int .u64 x0, .int .u64 x1, .int .u64 x2, .int .u64 x3] 65 :: os)) → Hid (W'.heap.size = B + j') → wpList Try.prog ops Q rest (a.put (some d) (.slice (some ⟨B + j, 0, none⟩) 4 4)) W') :
    wpList Try.prog ops Q (⟨some d, .buildSlice 24 4 #[(0, .const (.int .u64 x0)), (1, .const (.int .u64 x1)), (2, .const (.int .u64 x2)), (3, .const (.int .u64 x3))], ty, pos, af, none⟩ :: rest) a w := by
  refine lit_step (fun K W hW hK => ?_) hw hs hj h
  unfold Oper.wp execOp
  go_simp
  exact hK
theorem lit_chain1 {p0 q0 a0 : Value} {t0 : Tmp} (e0 : a.tmps[t0]?.getD undef = .agg #[p0, q0, a0]) (hw : Hid (w = revAllocs w0 os)) (hs : Hid (w.heap.size = B + j)) (hj : j + 1 = j')
    (h : ∀ W', Hid (W' = revAllocs w0 (.cells #[p0, q0, a0] 67 :: os)) → Hid (W'.heap.size = B + j') → wpList Try.prog ops Q rest (a.put (some d) (.slice (some ⟨B + j, 0, none⟩) 1 1)) W') :
    wpList Try.prog ops Q (⟨some d, .buildSlice 53 1 #[(0, .tmp t0)], ty, pos, af, none⟩ :: rest) a w := by
  refine lit_step (fun K W hW hK => ?_) hw hs hj h
  unfold Oper.wp execOp
  go_simp
  exact hK
theorem lit_chain2 {p0 q0 a0 p1 q1 a1 : Value} {t0 t1 : Tmp} (e0 : a.tmps[t0]?.getD undef = .agg #[p0, q0, a0]) (e1 : a.tmps[t1]?.getD undef = .agg #[p1, q1, a1]) (hw : Hid (w = revAllocs w0 os)) (hs : Hid (w.heap.size = B + j)) (hj : j + 1 = j')
    (h : ∀ W', Hid (W' = revAllocs w0 (.cells #[p0, q0, a0, p1, q1, a1] 67 :: os)) → Hid (W'.heap.size = B + j') → wpList Try.prog ops Q rest (a.put (some d) (.slice (some ⟨B + j, 0, none⟩) 2 2)) W') :
    wpList Try.prog ops Q (⟨some d, .buildSlice 53 2 #[(0, .tmp t0), (1, .tmp t1)], ty, pos, af, none⟩ :: rest) a w := by
  refine lit_step (fun K W hW hK => ?_) hw hs hj h
  unfold Oper.wp execOp
  go_simp
  exact hK
theorem lit_chain3 {p0 q0 a0 p1 q1 a1 p2 q2 a2 : Value} {t0 t1 t2 : Tmp} (e0 : a.tmps[t0]?.getD undef = .agg #[p0, q0, a0]) (e1 : a.tmps[t1]?.getD undef = .agg #[p1, q1, a1]) (e2 : a.tmps[t2]?.getD undef = .agg #[p2, q2, a2]) (hw : Hid (w = revAllocs w0 os)) (hs : Hid (w.heap.size = B + j)) (hj : j + 1 = j')
    (h : ∀ W', Hid (W' = revAllocs w0 (.cells #[p0, q0, a0, p1, q1, a1, p2, q2, a2] 67 :: os)) → Hid (W'.heap.size = B + j') → wpList Try.prog ops Q rest (a.put (some d) (.slice (some ⟨B + j, 0, none⟩) 3 3)) W') :
    wpList Try.prog ops Q (⟨some d, .buildSlice 53 3 #[(0, .tmp t0), (1, .tmp t1), (2, .tmp t2)], ty, pos, af, none⟩ :: rest) a w := by
  refine lit_step (fun K W hW hK => ?_) hw hs hj h
  unfold Oper.wp execOp
  go_simp
  exact hK
theorem lit_chain4 {p0 q0 a0 p1 q1 a1 p2 q2 a2 p3 q3 a3 : Value} {t0 t1 t2 t3 : Tmp} (e0 : a.tmps[t0]?.getD undef = .agg #[p0, q0, a0]) (e1 : a.tmps[t1]?.getD undef = .agg #[p1, q1, a1]) (e2 : a.tmps[t2]?.getD undef = .agg #[p2, q2, a2]) (e3 : a.tmps[t3]?.getD undef = .agg #[p3, q3, a3]) (hw : Hid (w = revAllocs w0 os)) (hs : Hid (w.heap.size = B + j)) (hj : j + 1 = j')
    (h : ∀ W', Hid (W' = revAllocs w0 (.cells #[p0, q0, a0, p1, q1, a1, p2, q2, a2, p3, q3, a3] 67 :: os)) → Hid (W'.heap.size = B + j') → wpList Try.prog ops Q rest (a.put (some d) (.slice (some ⟨B + j, 0, none⟩) 4 4)) W') :
    wpList Try.prog ops Q (⟨some d, .buildSlice 53 4 #[(0, .tmp t0), (1, .tmp t1), (2, .tmp t2), (3, .tmp t3)], ty, pos, af, none⟩ :: rest) a w := by
  refine lit_step (fun K W hW hK => ?_) hw hs hj h
  unfold Oper.wp execOp
  go_simp
  exact hK
theorem lit_chain5 {p0 q0 a0 p1 q1 a1 p2 q2 a2 p3 q3 a3 p4 q4 a4 : Value} {t0 t1 t2 t3 t4 : Tmp} (e0 : a.tmps[t0]?.getD undef = .agg #[p0, q0, a0]) (e1 : a.tmps[t1]?.getD undef = .agg #[p1, q1, a1]) (e2 : a.tmps[t2]?.getD undef = .agg #[p2, q2, a2]) (e3 : a.tmps[t3]?.getD undef = .agg #[p3, q3, a3]) (e4 : a.tmps[t4]?.getD undef = .agg #[p4, q4, a4]) (hw : Hid (w = revAllocs w0 os)) (hs : Hid (w.heap.size = B + j)) (hj : j + 1 = j')
    (h : ∀ W', Hid (W' = revAllocs w0 (.cells #[p0, q0, a0, p1, q1, a1, p2, q2, a2, p3, q3, a3, p4, q4, a4] 67 :: os)) → Hid (W'.heap.size = B + j') → wpList Try.prog ops Q rest (a.put (some d) (.slice (some ⟨B + j, 0, none⟩) 5 5)) W') :
    wpList Try.prog ops Q (⟨some d, .buildSlice 53 5 #[(0, .tmp t0), (1, .tmp t1), (2, .tmp t2), (3, .tmp t3), (4, .tmp t4)], ty, pos, af, none⟩ :: rest) a w := by
  refine lit_step (fun K W hW hK => ?_) hw hs hj h
  unfold Oper.wp execOp
  go_simp
  exact hK
theorem lit_chain6 {p0 q0 a0 p1 q1 a1 p2 q2 a2 p3 q3 a3 p4 q4 a4 p5 q5 a5 : Value} {t0 t1 t2 t3 t4 t5 : Tmp} (e0 : a.tmps[t0]?.getD undef = .agg #[p0, q0, a0]) (e1 : a.tmps[t1]?.getD undef = .agg #[p1, q1, a1]) (e2 : a.tmps[t2]?.getD undef = .agg #[p2, q2, a2]) (e3 : a.tmps[t3]?.getD undef = .agg #[p3, q3, a3]) (e4 : a.tmps[t4]?.getD undef = .agg #[p4, q4, a4]) (e5 : a.tmps[t5]?.getD undef = .agg #[p5, q5, a5]) (hw : Hid (w = revAllocs w0 os)) (hs : Hid (w.heap.size = B + j)) (hj : j + 1 = j')
    (h : ∀ W', Hid (W' = revAllocs w0 (.cells #[p0, q0, a0, p1, q1, a1, p2, q2, a2, p3, q3, a3, p4, q4, a4, p5, q5, a5] 67 :: os)) → Hid (W'.heap.size = B + j') → wpList Try.prog ops Q rest (a.put (some d) (.slice (some ⟨B + j, 0, none⟩) 6 6)) W') :
    wpList Try.prog ops Q (⟨some d, .buildSlice 53 6 #[(0, .tmp t0), (1, .tmp t1), (2, .tmp t2), (3, .tmp t3), (4, .tmp t4), (5, .tmp t5)], ty, pos, af, none⟩ :: rest) a w := by
  refine lit_step (fun K W hW hK => ?_) hw hs hj h
  unfold Oper.wp execOp
  go_simp
  exact hK
theorem lit_all {g0 c0 g1 c1 g2 c2 g3 c3 g4 c4 g5 c5 g6 c6 g7 c7 g8 c8 g9 c9 g10 c10 : Value} {t0 t1 t2 t3 t4 t5 t6 t7 t8 t9 t10 : Tmp} (e0 : a.tmps[t0]?.getD undef = .agg #[g0, c0]) (e1 : a.tmps[t1]?.getD undef = .agg #[g1, c1]) (e2 : a.tmps[t2]?.getD undef = .agg #[g2, c2]) (e3 : a.tmps[t3]?.getD undef = .agg #[g3, c3]) (e4 : a.tmps[t4]?.getD undef = .agg #[g4, c4]) (e5 : a.tmps[t5]?.getD undef = .agg #[g5, c5]) (e6 : a.tmps[t6]?.getD undef = .agg #[g6, c6]) (e7 : a.tmps[t7]?.getD undef = .agg #[g7, c7]) (e8 : a.tmps[t8]?.getD undef = .agg #[g8, c8]) (e9 : a.tmps[t9]?.getD undef = .agg #[g9, c9]) (e10 : a.tmps[t10]?.getD undef = .agg #[g10, c10]) (hw : Hid (w = revAllocs w0 os)) (hs : Hid (w.heap.size = B + j)) (hj : j + 1 = j')
    (h : ∀ W', Hid (W' = revAllocs w0 (.cells #[g0, c0, g1, c1, g2, c2, g3, c3, g4, c4, g5, c5, g6, c6, g7, c7, g8, c8, g9, c9, g10, c10] 55 :: os)) → Hid (W'.heap.size = B + j') → wpList Try.prog ops Q rest (a.put (some d) (.slice (some ⟨B + j, 0, none⟩) 11 11)) W') :
    wpList Try.prog ops Q (⟨some d, .buildSlice 91 11 #[(0, .tmp t0), (1, .tmp t1), (2, .tmp t2), (3, .tmp t3), (4, .tmp t4), (5, .tmp t5), (6, .tmp t6), (7, .tmp t7), (8, .tmp t8), (9, .tmp t9), (10, .tmp t10)], ty, pos, af, none⟩ :: rest) a w := by
  refine lit_step (fun K W hW hK => ?_) hw hs hj h
  unfold Oper.wp execOp
  go_simp
  exact hK
end
/-- the memory that they are told in, the last first; from block B on -/
def knownOs (B : Nat) : List Obj :=
  (.cells #[.slice (some ⟨B + 1, 0, none⟩) 1 1, .slice (some ⟨B + 5, 0, none⟩) 1 1, .slice (some ⟨B + 6, 0, none⟩) 1 1, .slice (some ⟨B + 13, 0, none⟩) 2 2, .slice (some ⟨B + 14, 0, none⟩) 1 1, .slice (some ⟨B + 21, 0, none⟩) 2 2, .slice (some ⟨B + 22, 0, none⟩) 1 1, .slice (some ⟨B + 32, 0, none⟩) 3 3, .slice (some ⟨B + 33, 0, none⟩) 1 1, .slice (some ⟨B + 43, 0, none⟩) 3 3, .slice (some ⟨B + 44, 0, none⟩) 1 1, .slice (some ⟨B + 57, 0, none⟩) 4 4, .slice (some ⟨B + 58, 0, none⟩) 1 1, .slice (some ⟨B + 71, 0, none⟩) 4 4, .slice (some ⟨B + 72, 0, none⟩) 1 1, .slice (some ⟨B + 85, 0, none⟩) 4 4, .slice (some ⟨B + 86, 0, none⟩) 1 1, .slice (some ⟨B + 102, 0, none⟩) 5 5, .slice (some ⟨B + 103, 0, none⟩) 1 1, .slice (some ⟨B + 119, 0, none⟩) 5 5, .slice (some ⟨B + 120, 0, none⟩) 1 1, .slice (some ⟨B + 139, 0, none⟩) 6 6] 55) ::
  (.cells #[.slice (some ⟨B + 121, 0, none⟩) 4 4, .slice (some ⟨B + 122, 0, none⟩) 4 4, .slice (some ⟨B + 123, 0, none⟩) 1 1, .slice (some ⟨B + 124, 0, none⟩) 4 4, .slice (some ⟨B + 125, 0, none⟩) 4 4, .slice (some ⟨B + 126, 0, none⟩) 1 1, .slice (some ⟨B + 127, 0, none⟩) 4 4, .slice (some ⟨B + 128, 0, none⟩) 2 2, .slice (some ⟨B + 129, 0, none⟩) 1 1, .slice (some ⟨B + 130, 0, none⟩) 2 2, .slice (some ⟨B + 131, 0, none⟩) 1 1, .slice (some ⟨B + 132, 0, none⟩) 1 1, .slice (some ⟨B + 133, 0, none⟩) 1 1, .slice (some ⟨B + 134, 0, none⟩) 1 1, .slice (some ⟨B + 135, 0, none⟩) 1 1, .slice (some ⟨B + 136, 0, none⟩) 1 1, .slice (some ⟨B + 137, 0, none⟩) 1 1, .slice (some ⟨B + 138, 0, none⟩) 1 1] 67) ::
  (.cells #[.int .u64 2] 65) ::
  (.cells #[.int .u64 36901] 65) ::
  (.cells #[.int .u64 902893669] 65) ::
  (.cells #[.int .u64 2] 65) ::
  (.cells #[.int .u64 902893669] 65) ::
  (.cells #[.int .u64 238236089707193629] 65) ::
  (.cells #[.int .u64 2] 65) ::
  (.cells #[.int .u64 238236089707193629] 65) ::
  (.cells #[.int .u64 7363949757740889991, .int .u64 947980809119916] 65) ::
  (.cells #[.int .u64 2] 65) ::
  (.cells #[.int .u64 7363949757740889991, .int .u64 947980809119916] 65) ::
  (.cells #[.int .u64 2128832344054565539, .int .u64 5188484454565121284, .int .u64 11588479929783459793, .int .u64 11392430636] 65) ::
  (.cells #[.int .u64 2] 65) ::
  (.cells #[.int .u64 2128832344054565539, .int .u64 5188484454565121284, .int .u64 11588479929783459793, .int .u64 11392430636] 65) ::
  (.cells #[.int .u64 5399892129533271413, .int .u64 14026688745051725501, .int .u64 4439184269241227493, .int .u64 7873118103684900679] 65) ::
  (.cells #[.int .u64 2] 65) ::
  (.cells #[.int .u64 5399892129533271413, .int .u64 14026688745051725501, .int .u64 4439184269241227493, .int .u64 7873118103684900679] 65) ::
  (.cells #[.int .u64 10799784259066542827, .int .u64 9606633416393899386, .int .u64 8878368538482454987, .int .u64 15746236207369801358] 65) ::
  (.cells #[.int .u64 4] 65) ::
  (.cells #[.slice (some ⟨B + 104, 0, none⟩) 3 3, .slice (some ⟨B + 105, 0, none⟩) 3 3, .slice (some ⟨B + 106, 0, none⟩) 1 1, .slice (some ⟨B + 107, 0, none⟩) 3 3, .slice (some ⟨B + 108, 0, none⟩) 2 2, .slice (some ⟨B + 109, 0, none⟩) 1 1, .slice (some ⟨B + 110, 0, none⟩) 2 2, .slice (some ⟨B + 111, 0, none⟩) 1 1, .slice (some ⟨B + 112, 0, none⟩) 1 1, .slice (some ⟨B + 113, 0, none⟩) 1 1, .slice (some ⟨B + 114, 0, none⟩) 1 1, .slice (some ⟨B + 115, 0, none⟩) 1 1, .slice (some ⟨B + 116, 0, none⟩) 1 1, .slice (some ⟨B + 117, 0, none⟩) 1 1, .slice (some ⟨B + 118, 0, none⟩) 1 1] 67) ::
  (.cells #[.int .u64 2] 65) ::
  (.cells #[.int .u64 34847] 65) ::
  (.cells #[.int .u64 725375153] 65) ::
  (.cells #[.int .u64 2] 65) ::
  (.cells #[.int .u64 725375153] 65) ::
  (.cells #[.int .u64 230885128227773927] 65) ::
  (.cells #[.int .u64 2] 65) ::
  (.cells #[.int .u64 230885128227773927] 65) ::
  (.cells #[.int .u64 7859188658856360755, .int .u64 945900106163132] 65) ::
  (.cells #[.int .u64 2] 65) ::
  (.cells #[.int .u64 7859188658856360755, .int .u64 945900106163132] 65) ::
  (.cells #[.int .u64 4607736682783629635, .int .u64 2302902054045441992, .int .u64 7770059189775768724] 65) ::
  (.cells #[.int .u64 2] 65) ::
  (.cells #[.int .u64 4607736682783629635, .int .u64 2302902054045441992, .int .u64 7770059189775768724] 65) ::
  (.cells #[.int .u64 9215473365567259271, .int .u64 4605804108090883984, .int .u64 15540118379551537448] 65) ::
  (.cells #[.int .u64 4] 65) ::
  (.cells #[.slice (some ⟨B + 87, 0, none⟩) 2 2, .slice (some ⟨B + 88, 0, none⟩) 2 2, .slice (some ⟨B + 89, 0, none⟩) 1 1, .slice (some ⟨B + 90, 0, none⟩) 2 2, .slice (some ⟨B + 91, 0, none⟩) 2 2, .slice (some ⟨B + 92, 0, none⟩) 1 1, .slice (some ⟨B + 93, 0, none⟩) 2 2, .slice (some ⟨B + 94, 0, none⟩) 1 1, .slice (some ⟨B + 95, 0, none⟩) 1 1, .slice (some ⟨B + 96, 0, none⟩) 1 1, .slice (some ⟨B + 97, 0, none⟩) 1 1, .slice (some ⟨B + 98, 0, none⟩) 1 1, .slice (some ⟨B + 99, 0, none⟩) 1 1, .slice (some ⟨B + 100, 0, none⟩) 1 1, .slice (some ⟨B + 101, 0, none⟩) 1 1] 67) ::
  (.cells #[.int .u64 2] 65) ::
  (.cells #[.int .u64 63439] 65) ::
  (.cells #[.int .u64 588713921] 65) ::
  (.cells #[.int .u64 2] 65) ::
  (.cells #[.int .u64 588713921] 65) ::
  (.cells #[.int .u64 193128230530517629] 65) ::
  (.cells #[.int .u64 2] 65) ::
  (.cells #[.int .u64 193128230530517629] 65) ::
  (.cells #[.int .u64 11996286182992634747, .int .u64 863074989703505] 65) ::
  (.cells #[.int .u64 2] 65) ::
  (.cells #[.int .u64 11996286182992634747, .int .u64 863074989703505] 65) ::
  (.cells #[.int .u64 10290848515800837493, .int .u64 7978265204819206231] 65) ::
  (.cells #[.int .u64 2] 65) ::
  (.cells #[.int .u64 10290848515800837493, .int .u64 7978265204819206231] 65) ::
  (.cells #[.int .u64 2134952957892123371, .int .u64 15956530409638412463] 65) ::
  (.cells #[.int .u64 4] 65) ::
  (.cells #[.slice (some ⟨B + 73, 0, none⟩) 2 2, .slice (some ⟨B + 74, 0, none⟩) 2 2, .slice (some ⟨B + 75, 0, none⟩) 1 1, .slice (some ⟨B + 76, 0, none⟩) 2 2, .slice (some ⟨B + 77, 0, none⟩) 1 1, .slice (some ⟨B + 78, 0, none⟩) 1 1, .slice (some ⟨B + 79, 0, none⟩) 1 1, .slice (some ⟨B + 80, 0, none⟩) 1 1, .slice (some ⟨B + 81, 0, none⟩) 1 1, .slice (some ⟨B + 82, 0, none⟩) 1 1, .slice (some ⟨B + 83, 0, none⟩) 1 1, .slice (some ⟨B + 84, 0, none⟩) 1 1] 67) ::
  (.cells #[.int .u64 2] 65) ::
  (.cells #[.int .u64 40627] 65) ::
  (.cells #[.int .u64 998205391] 65) ::
  (.cells #[.int .u64 2] 65) ::
  (.cells #[.int .u64 998205391] 65) ::
  (.cells #[.int .u64 223751503623384853] 65) ::
  (.cells #[.int .u64 2] 65) ::
  (.cells #[.int .u64 223751503623384853] 65) ::
  (.cells #[.int .u64 2404126000720463007, .int .u64 1505752979] 65) ::
  (.cells #[.int .u64 2] 65) ::
  (.cells #[.int .u64 2404126000720463007, .int .u64 1505752979] 65) ::
  (.cells #[.int .u64 4808252001440926015, .int .u64 3011505958] 65) ::
  (.cells #[.int .u64 4] 65) ::
  (.cells #[.slice (some ⟨B + 59, 0, none⟩) 2 2, .slice (some ⟨B + 60, 0, none⟩) 2 2, .slice (some ⟨B + 61, 0, none⟩) 1 1, .slice (some ⟨B + 62, 0, none⟩) 2 2, .slice (some ⟨B + 63, 0, none⟩) 1 1, .slice (some ⟨B + 64, 0, none⟩) 1 1, .slice (some ⟨B + 65, 0, none⟩) 1 1, .slice (some ⟨B + 66, 0, none⟩) 1 1, .slice (some ⟨B + 67, 0, none⟩) 1 1, .slice (some ⟨B + 68, 0, none⟩) 1 1, .slice (some ⟨B + 69, 0, none⟩) 1 1, .slice (some ⟨B + 70, 0, none⟩) 1 1] 67) ::
  (.cells #[.int .u64 2] 65) ::
  (.cells #[.int .u64 61843] 65) ::
  (.cells #[.int .u64 869759953] 65) ::
  (.cells #[.int .u64 2] 65) ::
  (.cells #[.int .u64 869759953] 65) ::
  (.cells #[.int .u64 213235551241998941] 65) ::
  (.cells #[.int .u64 2] 65) ::
  (.cells #[.int .u64 213235551241998941] 65) ::
  (.cells #[.int .u64 15435372851300897329, .int .u64 70] 65) ::
  (.cells #[.int .u64 2] 65) ::
  (.cells #[.int .u64 15435372851300897329, .int .u64 70] 65) ::
  (.cells #[.int .u64 12424001628892243043, .int .u64 141] 65) ::
  (.cells #[.int .u64 4] 65) ::
  (.cells #[.slice (some ⟨B + 45, 0, none⟩) 1 1, .slice (some ⟨B + 46, 0, none⟩) 1 1, .slice (some ⟨B + 47, 0, none⟩) 1 1, .slice (some ⟨B + 48, 0, none⟩) 1 1, .slice (some ⟨B + 49, 0, none⟩) 1 1, .slice (some ⟨B + 50, 0, none⟩) 1 1, .slice (some ⟨B + 51, 0, none⟩) 1 1, .slice (some ⟨B + 52, 0, none⟩) 1 1, .slice (some ⟨B + 53, 0, none⟩) 1 1, .slice (some ⟨B + 54, 0, none⟩) 1 1, .slice (some ⟨B + 55, 0, none⟩) 1 1, .slice (some ⟨B + 56, 0, none⟩) 1 1] 67) ::
  (.cells #[.int .u64 2] 65) ::
  (.cells #[.int .u64 33791] 65) ::
  (.cells #[.int .u64 540926329] 65) ::
  (.cells #[.int .u64 2] 65) ::
  (.cells #[.int .u64 540926329] 65) ::
  (.cells #[.int .u64 245088722592472699] 65) ::
  (.cells #[.int .u64 2] 65) ::
  (.cells #[.int .u64 245088722592472699] 65) ::
  (.cells #[.int .u64 5391951897034399379] 65) ::
  (.cells #[.int .u64 2] 65) ::
  (.cells #[.int .u64 5391951897034399379] 65) ::
  (.cells #[.int .u64 10783903794068798759] 65) ::
  (.cells #[.int .u64 4] 65) ::
  (.cells #[.slice (some ⟨B + 34, 0, none⟩) 1 1, .slice (some ⟨B + 35, 0, none⟩) 1 1, .slice (some ⟨B + 36, 0, none⟩) 1 1, .slice (some ⟨B + 37, 0, none⟩) 1 1, .slice (some ⟨B + 38, 0, none⟩) 1 1, .slice (some ⟨B + 39, 0, none⟩) 1 1, .slice (some ⟨B + 40, 0, none⟩) 1 1, .slice (some ⟨B + 41, 0, none⟩) 1 1, .slice (some ⟨B + 42, 0, none⟩) 1 1] 67) ::
  (.cells #[.int .u64 2] 65) ::
  (.cells #[.int .u64 39181] 65) ::
  (.cells #[.int .u64 962912257] 65) ::
  (.cells #[.int .u64 2] 65) ::
  (.cells #[.int .u64 962912257] 65) ::
  (.cells #[.int .u64 25818620270027393] 65) ::
  (.cells #[.int .u64 2] 65) ::
  (.cells #[.int .u64 25818620270027393] 65) ::
  (.cells #[.int .u64 51637240540054787] 65) ::
  (.cells #[.int .u64 4] 65) ::
  (.cells #[.slice (some ⟨B + 23, 0, none⟩) 1 1, .slice (some ⟨B + 24, 0, none⟩) 1 1, .slice (some ⟨B + 25, 0, none⟩) 1 1, .slice (some ⟨B + 26, 0, none⟩) 1 1, .slice (some ⟨B + 27, 0, none⟩) 1 1, .slice (some ⟨B + 28, 0, none⟩) 1 1, .slice (some ⟨B + 29, 0, none⟩) 1 1, .slice (some ⟨B + 30, 0, none⟩) 1 1, .slice (some ⟨B + 31, 0, none⟩) 1 1] 67) ::
  (.cells #[.int .u64 2] 65) ::
  (.cells #[.int .u64 44879] 65) ::
  (.cells #[.int .u64 589261271] 65) ::
  (.cells #[.int .u64 2] 65) ::
  (.cells #[.int .u64 589261271] 65) ::
  (.cells #[.int .u64 478480152053] 65) ::
  (.cells #[.int .u64 2] 65) ::
  (.cells #[.int .u64 478480152053] 65) ::
  (.cells #[.int .u64 956960304107] 65) ::
  (.cells #[.int .u64 4] 65) ::
  (.cells #[.slice (some ⟨B + 15, 0, none⟩) 1 1, .slice (some ⟨B + 16, 0, none⟩) 1 1, .slice (some ⟨B + 17, 0, none⟩) 1 1, .slice (some ⟨B + 18, 0, none⟩) 1 1, .slice (some ⟨B + 19, 0, none⟩) 1 1, .slice (some ⟨B + 20, 0, none⟩) 1 1] 67) ::
  (.cells #[.int .u64 2] 65) ::
  (.cells #[.int .u64 45949] 65) ::
  (.cells #[.int .u64 447635159] 65) ::
  (.cells #[.int .u64 2] 65) ::
  (.cells #[.int .u64 447635159] 65) ::
  (.cells #[.int .u64 895270319] 65) ::
  (.cells #[.int .u64 4] 65) ::
  (.cells #[.slice (some ⟨B + 7, 0, none⟩) 1 1, .slice (some ⟨B + 8, 0, none⟩) 1 1, .slice (some ⟨B + 9, 0, none⟩) 1 1, .slice (some ⟨B + 10, 0, none⟩) 1 1, .slice (some ⟨B + 11, 0, none⟩) 1 1, .slice (some ⟨B + 12, 0, none⟩) 1 1] 67) ::
  (.cells #[.int .u64 2] 65) ::
  (.cells #[.int .u64 42227] 65) ::
  (.cells #[.int .u64 8192039] 65) ::
  (.cells #[.int .u64 2] 65) ::
  (.cells #[.int .u64 8192039] 65) ::
  (.cells #[.int .u64 16384079] 65) ::
  (.cells #[.int .u64 4] 65) ::
  (.cells #[.slice (some ⟨B + 2, 0, none⟩) 1 1, .slice (some ⟨B + 3, 0, none⟩) 1 1, .slice (some ⟨B + 4, 0, none⟩) 1 1] 67) ::
  (.cells #[.int .u64 2] 65) ::
  (.cells #[.int .u64 50273] 65) ::
  (.cells #[.int .u64 100547] 65) ::
  (.cells #[.int .u64 4] 65) ::
  (.cells #[.slice none 0 0, .slice none 0 0] 55) ::
  []

/-- what was made behind the first block -/
def Later (w w' : World) (b : Nat) : Prop := w.heap.size < b ∧ b < w'.heap.size
theorem known_nat (w : World) {j n : Nat} {ds : List Nat} {x : Nat} (hn : n = ds.length) (hj : 0 < j ∧ j < 141) (h : (knownOs w.heap.size)[141 - 1 - j]? = some (.cells (nums .u64 ds).toArray 65)) (hd : ds.all (fun d => decide (d < B64)) = true) (hl4 : ds.length ≤ 100) (hv : Pl.val B64 ds = x) :
    RawN.rep (Later w (revAllocs w (knownOs w.heap.size))) (revAllocs w (knownOs w.heap.size)) x [.slice (some ⟨w.heap.size + j, 0, none⟩) n n] := by
  subst hn
  have hr := revAllocs_row w (knownOs w.heap.size) j (show j < (knownOs w.heap.size).length from hj.2) h
  have hl := hr.lt
  have hdig : Pl.Dig B64 ds := fun d hm => by simpa using List.all_eq_true.1 hd d hm
  exact ⟨ds, hr.slNum (B := B64) (S := Later w _) ⟨Nat.lt_add_of_pos_right hj.1, hl⟩ hdig ds.length (Nat.le_refl _) (by omega) (by omega), hv⟩
theorem known_cells (w : World) {j : Nat} {e : TypeId} {cs : List Value} (hj : j < 141) (h : (knownOs w.heap.size)[141 - 1 - j]? = some (.cells cs.toArray e)) : Row (revAllocs w (knownOs w.heap.size)) (w.heap.size + j) e cs :=
  revAllocs_row w (knownOs w.heap.size) j (show j < (knownOs w.heap.size).length from hj) h
theorem chain_row {S : Nat → Prop} {w : World} {g n : Nat} {l : List Step3} {cs : List Value} (h : Row w g 67 cs) (hS : S g) (hl : RepL StepS S w l cs) (hn : n = l.length) (h64 : l.length ≤ 64) : StepS.sl.rep S w l [.slice (some ⟨g, 0, none⟩) n n] := by
  subst hn
  exact h.sl hS hl l.length (Nat.le_refl _) (by omega) (by show l.length * (24 + (24 + 24)) ≤ _; omega)

set_option maxRecDepth 100000 in
theorem known_data0 (w : World) : RawN.rep (Later w (revAllocs w (knownOs w.heap.size))) (revAllocs w (knownOs w.heap.size)) 4 [.slice (some ⟨w.heap.size + 1, 0, none⟩) 1 1] ∧ StepS.sl.rep (Later w (revAllocs w (knownOs w.heap.size))) (revAllocs w (knownOs w.heap.size)) (knownL 0) [.slice (some ⟨w.heap.size + 5, 0, none⟩) 1 1] := by
  refine ⟨(known_nat w (j := 1) (ds := [4]) rfl (by decide) rfl (by decide +kernel) (by decide) (by decide +kernel)), ?_⟩
  have hr := known_cells w (j := 5) (e := 67) (cs := [.slice (some ⟨w.heap.size + 2, 0, none⟩) 1 1, .slice (some ⟨w.heap.size + 3, 0, none⟩) 1 1, .slice (some ⟨w.heap.size + 4, 0, none⟩) 1 1]) (by decide) rfl
  refine chain_row hr ⟨Nat.lt_add_of_pos_right (by decide), hr.lt⟩ ?_ rfl (by decide)
  exact ⟨[_, _, _], _, rfl, ⟨[_], [_, _], rfl, (known_nat w (j := 2) (ds := [100547]) rfl (by decide) rfl (by decide +kernel) (by decide) (by decide +kernel)), [_], [_], rfl, (known_nat w (j := 3) (ds := [50273]) rfl (by decide) rfl (by decide +kernel) (by decide) (by decide +kernel)), (known_nat w (j := 4) (ds := [2]) rfl (by decide) rfl (by decide +kernel) (by decide) (by decide +kernel))⟩, rfl⟩
set_option maxRecDepth 100000 in
theorem known_data1 (w : World) : RawN.rep (Later w (revAllocs w (knownOs w.heap.size))) (revAllocs w (knownOs w.heap.size)) 4 [.slice (some ⟨w.heap.size + 6, 0, none⟩) 1 1] ∧ StepS.sl.rep (Later w (revAllocs w (knownOs w.heap.size))) (revAllocs w (knownOs w.heap.size)) (knownL 1) [.slice (some ⟨w.heap.size + 13, 0, none⟩) 2 2] := by
  refine ⟨(known_nat w (j := 6) (ds := [4]) rfl (by decide) rfl (by decide +kernel) (by decide) (by decide +kernel)), ?_⟩
  have hr := known_cells w (j := 13) (e := 67) (cs := [.slice (some ⟨w.heap.size + 7, 0, none⟩) 1 1, .slice (some ⟨w.heap.size + 8, 0, none⟩) 1 1, .slice (some ⟨w.heap.size + 9, 0, none⟩) 1 1, .slice (some ⟨w.heap.size + 10, 0, none⟩) 1 1, .slice (some ⟨w.heap.size + 11, 0, none⟩) 1 1, .slice (some ⟨w.heap.size + 12, 0, none⟩) 1 1]) (by decide) rfl
  refine chain_row hr ⟨Nat.lt_add_of_pos_right (by decide), hr.lt⟩ ?_ rfl (by decide)
  exact ⟨[_, _, _], _, rfl, ⟨[_], [_, _], rfl, (known_nat w (j := 7) (ds := [16384079]) rfl (by decide) rfl (by decide +kernel) (by decide) (by decide +kernel)), [_], [_], rfl, (known_nat w (j := 8) (ds := [8192039]) rfl (by decide) rfl (by decide +kernel) (by decide) (by decide +kernel)), (known_nat w (j := 9) (ds := [2]) rfl (by decide) rfl (by decide +kernel) (by decide) (by decide +kernel))⟩, ⟨[_, _, _], _, rfl, ⟨[_], [_, _], rfl, (known_nat w (j := 10) (ds := [8192039]) rfl (by decide) rfl (by decide +kernel) (by decide) (by decide +kernel)), [_], [_], rfl, (known_nat w (j := 11) (ds := [42227]) rfl (by decide) rfl (by decide +kernel) (by decide) (by decide +kernel)), (known_nat w (j := 12) (ds := [2]) rfl (by decide) rfl (by decide +kernel) (by decide) (by decide +kernel))⟩, rfl⟩⟩
set_option maxRecDepth 100000 in
theorem known_data2 (w : World) : RawN.rep (Later w (revAllocs w (knownOs w.heap.size))) (revAllocs w (knownOs w.heap.size)) 4 [.slice (some ⟨w.heap.size + 14, 0, none⟩) 1 1] ∧ StepS.sl.rep (Later w (revAllocs w (knownOs w.heap.size))) (revAllocs w (knownOs w.heap.size)) (knownL 2) [.slice (some ⟨w.heap.size + 21, 0, none⟩) 2 2] := by
  refine ⟨(known_nat w (j := 14) (ds := [4]) rfl (by decide) rfl (by decide +kernel) (by decide) (by decide +kernel)), ?_⟩
  have hr := known_cells w (j := 21) (e := 67) (cs := [.slice (some ⟨w.heap.size + 15, 0, none⟩) 1 1, .slice (some ⟨w.heap.size + 16, 0, none⟩) 1 1, .slice (some ⟨w.heap.size + 17, 0, none⟩) 1 1, .slice (some ⟨w.heap.size + 18, 0, none⟩) 1 1, .slice (some ⟨w.heap.size + 19, 0, none⟩) 1 1, .slice (some ⟨w.heap.size + 20, 0, none⟩) 1 1]) (by decide) rfl
  refine chain_row hr ⟨Nat.lt_add_of_pos_right (by decide), hr.lt⟩ ?_ rfl (by decide)
  exact ⟨[_, _, _], _, rfl, ⟨[_], [_, _], rfl, (known_nat w (j := 15) (ds := [895270319]) rfl (by decide) rfl (by decide +kernel) (by decide) (by decide +kernel)), [_], [_], rfl, (known_nat w (j := 16) (ds := [447635159]) rfl (by decide) rfl (by decide +kernel) (by decide) (by decide +kernel)), (known_nat w (j := 17) (ds := [2]) rfl (by decide) rfl (by decide +kernel) (by decide) (by decide +kernel))⟩, ⟨[_, _, _], _, rfl, ⟨[_], [_, _], rfl, (known_nat w (j := 18) (ds := [447635159]) rfl (by decide) rfl (by decide +kernel) (by decide) (by decide +kernel)), [_], [_], rfl, (known_nat w (j := 19) (ds := [45949]) rfl (by decide) rfl (by decide +kernel) (by decide) (by decide +kernel)), (known_nat w (j := 20) (ds := [2]) rfl (by decide) rfl (by decide +kernel) (by decide) (by decide +kernel))⟩, rfl⟩⟩
set_option maxRecDepth 100000 in
theorem known_data3 (w : World) : RawN.rep (Later w (revAllocs w (knownOs w.heap.size))) (revAllocs w (knownOs w.heap.size)) 4 [.slice (some ⟨w.heap.size + 22, 0, none⟩) 1 1] ∧ StepS.sl.rep (Later w (revAllocs w (knownOs w.heap.size))) (revAllocs w (knownOs w.heap.size)) (knownL 3) [.slice (some ⟨w.heap.size + 32, 0, none⟩) 3 3] := by
  refine ⟨(known_nat w (j := 22) (ds := [4]) rfl (by decide) rfl (by decide +kernel) (by decide) (by decide +kernel)), ?_⟩
  have hr := known_cells w (j := 32) (e := 67) (cs := [.slice (some ⟨w.heap.size + 23, 0, none⟩) 1 1, .slice (some ⟨w.heap.size + 24, 0, none⟩) 1 1, .slice (some ⟨w.heap.size + 25, 0, none⟩) 1 1, .slice (some ⟨w.heap.size + 26, 0, none⟩) 1 1, .slice (some ⟨w.heap.size + 27, 0, none⟩) 1 1, .slice (some ⟨w.heap.size + 28, 0, none⟩) 1 1, .slice (some ⟨w.heap.size + 29, 0, none⟩) 1 1, .slice (some ⟨w.heap.size + 30, 0, none⟩) 1 1, .slice (some ⟨w.heap.size + 31, 0, none⟩) 1 1]) (by decide) rfl
  refine chain_row hr ⟨Nat.lt_add_of_pos_right (by decide), hr.lt⟩ ?_ rfl (by decide)
  exact ⟨[_, _, _], _, rfl, ⟨[_], [_, _], rfl, (known_nat w (j := 23) (ds := [956960304107]) rfl (by decide) rfl (by decide +kernel) (by decide) (by decide +kernel)), [_], [_], rfl, (known_nat w (j := 24) (ds := [478480152053]) rfl (by decide) rfl (by decide +kernel) (by decide) (by decide +kernel)), (known_nat w (j := 25) (ds := [2]) rfl (by decide) rfl (by decide +kernel) (by decide) (by decide +kernel))⟩, ⟨[_, _, _], _, rfl, ⟨[_], [_, _], rfl, (known_nat w (j := 26) (ds := [478480152053]) rfl (by decide) rfl (by decide +kernel) (by decide) (by decide +kernel)), [_], [_], rfl, (known_nat w (j := 27) (ds := [589261271]) rfl (by decide) rfl (by decide +kernel) (by decide) (by decide +kernel)), (known_nat w (j := 28) (ds := [2]) rfl (by decide) rfl (by decide +kernel) (by decide) (by decide +kernel))⟩, ⟨[_, _, _], _, rfl, ⟨[_], [_, _], rfl, (known_nat w (j := 29) (ds := [589261271]) rfl (by decide) rfl (by decide +kernel) (by decide) (by decide +kernel)), [_], [_], rfl, (known_nat w (j := 30) (ds := [44879]) rfl (by decide) rfl (by decide +kernel) (by decide) (by decide +kernel)), (known_nat w (j := 31) (ds := [2]) rfl (by decide) rfl (by decide +kernel) (by decide) (by decide +kernel))⟩, rfl⟩⟩⟩
set_option maxRecDepth 100000 in
theorem known_data4 (w : World) : RawN.rep (Later w (revAllocs w (knownOs w.heap.size))) (revAllocs w (knownOs w.heap.size)) 4 [.slice (some ⟨w.heap.size + 33, 0, none⟩) 1 1] ∧ StepS.sl.rep (Later w (revAllocs w (knownOs w.heap.size))) (revAllocs w (knownOs w.heap.size)) (knownL 4) [.slice (some ⟨w.heap.size + 43, 0, none⟩) 3 3] := by
  refine ⟨(known_nat w (j := 33) (ds := [4]) rfl (by decide) rfl (by decide +kernel) (by decide) (by decide +kernel)), ?_⟩
  have hr := known_cells w (j := 43) (e := 67) (cs := [.slice (some ⟨w.heap.size + 34, 0, none⟩) 1 1, .slice (some ⟨w.heap.size + 35, 0, none⟩) 1 1, .slice (some ⟨w.heap.size + 36, 0, none⟩) 1 1, .slice (some ⟨w.heap.size + 37, 0, none⟩) 1 1, .slice (some ⟨w.heap.size + 38, 0, none⟩) 1 1, .slice (some ⟨w.heap.size + 39, 0, none⟩) 1 1, .slice (some ⟨w.heap.size + 40, 0, none⟩) 1 1, .slice (some ⟨w.heap.size + 41, 0, none⟩) 1 1, .slice (some ⟨w.heap.size + 42, 0, none⟩) 1 1]) (by decide) rfl
  refine chain_row hr ⟨Nat.lt_add_of_pos_right (by decide), hr.lt⟩ ?_ rfl (by decide)
  exact ⟨[_, _, _], _, rfl, ⟨[_], [_, _], rfl, (known_nat w (j := 34) (ds := [51637240540054787]) rfl (by decide) rfl (by decide +kernel) (by decide) (by decide +kernel)), [_], [_], rfl, (known_nat w (j := 35) (ds := [25818620270027393]) rfl (by decide) rfl (by decide +kernel) (by decide) (by decide +kernel)), (known_nat w (j := 36) (ds := [2]) rfl (by decide) rfl (by decide +kernel) (by decide) (by decide +kernel))⟩, ⟨[_, _, _], _, rfl, ⟨[_], [_, _], rfl, (known_nat w (j := 37) (ds := [25818620270027393]) rfl (by decide) rfl (by decide +kernel) (by decide) (by decide +kernel)), [_], [_], rfl, (known_nat w (j := 38) (ds := [962912257]) rfl (by decide) rfl (by decide +kernel) (by decide) (by decide +kernel)), (known_nat w (j := 39) (ds := [2]) rfl (by decide) rfl (by decide +kernel) (by decide) (by decide +kernel))⟩, ⟨[_, _, _], _, rfl, ⟨[_], [_, _], rfl, (known_nat w (j := 40) (ds := [962912257]) rfl (by decide) rfl (by decide +kernel) (by decide) (by decide +kernel)), [_], [_], rfl, (known_nat w (j := 41) (ds := [39181]) rfl (by decide) rfl (by decide +kernel) (by decide) (by decide +kernel)), (known_nat w (j := 42) (ds := [2]) rfl (by decide) rfl (by decide +kernel) (by decide) (by decide +kernel))⟩, rfl⟩⟩⟩
set_option maxRecDepth 100000 in
theorem known_data5 (w : World) : RawN.rep (Later w (revAllocs w (knownOs w.heap.size))) (revAllocs w (knownOs w.heap.size)) 4 [.slice (some ⟨w.heap.size + 44, 0, none⟩) 1 1] ∧ StepS.sl.rep (Later w (revAllocs w (knownOs w.heap.size))) (revAllocs w (knownOs w.heap.size)) (knownL 5) [.slice (some ⟨w.heap.size + 57, 0, none⟩) 4 4] := by
  refine ⟨(known_nat w (j := 44) (ds := [4]) rfl (by decide) rfl (by decide +kernel) (by decide) (by decide +kernel)), ?_⟩
  have hr := known_cells w (j := 57) (e := 67) (cs := [.slice (some ⟨w.heap.size + 45, 0, none⟩) 1 1, .slice (some ⟨w.heap.size + 46, 0, none⟩) 1 1, .slice (some ⟨w.heap.size + 47, 0, none⟩) 1 1, .slice (some ⟨w.heap.size + 48, 0, none⟩) 1 1, .slice (some ⟨w.heap.size + 49, 0, none⟩) 1 1, .slice (some ⟨w.heap.size + 50, 0, none⟩) 1 1, .slice (some ⟨w.heap.size + 51, 0, none⟩) 1 1, .slice (some ⟨w.heap.size + 52, 0, none⟩) 1 1, .slice (some ⟨w.heap.size + 53, 0, none⟩) 1 1, .slice (some ⟨w.heap.size + 54, 0, none⟩) 1 1, .slice (some ⟨w.heap.size + 55, 0, none⟩) 1 1, .slice (some ⟨w.heap.size + 56, 0, none⟩) 1 1]) (by decide) rfl
  refine chain_row hr ⟨Nat.lt_add_of_pos_right (by decide), hr.lt⟩ ?_ rfl (by decide)
  exact ⟨[_, _, _], _, rfl, ⟨[_], [_, _], rfl, (known_nat w (j := 45) (ds := [10783903794068798759]) rfl (by decide) rfl (by decide +kernel) (by decide) (by decide +kernel)), [_], [_], rfl, (known_nat w (j := 46) (ds := [5391951897034399379]) rfl (by decide) rfl (by decide +kernel) (by decide) (by decide +kernel)), (known_nat w (j := 47) (ds := [2]) rfl (by decide) rfl (by decide +kernel) (by decide) (by decide +kernel))⟩, ⟨[_, _, _], _, rfl, ⟨[_], [_, _], rfl, (known_nat w (j := 48) (ds := [5391951897034399379]) rfl (by decide) rfl (by decide +kernel) (by decide) (by decide +kernel)), [_], [_], rfl, (known_nat w (j := 49) (ds := [245088722592472699]) rfl (by decide) rfl (by decide +kernel) (by decide) (by decide +kernel)), (known_nat w (j := 50) (ds := [2]) rfl (by decide) rfl (by decide +kernel) (by decide) (by decide +kernel))⟩, ⟨[_, _, _], _, rfl, ⟨[_], [_, _], rfl, (known_nat w (j := 51) (ds := [245088722592472699]) rfl (by decide) rfl (by decide +kernel) (by decide) (by decide +kernel)), [_], [_], rfl, (known_nat w (j := 52) (ds := [540926329]) rfl (by decide) rfl (by decide +kernel) (by decide) (by decide +kernel)), (known_nat w (j := 53) (ds := [2]) rfl (by decide) rfl (by decide +kernel) (by decide) (by decide +kernel))⟩, ⟨[_, _, _], _, rfl, ⟨[_], [_, _], rfl, (known_nat w (j := 54) (ds := [540926329]) rfl (by decide) rfl (by decide +kernel) (by decide) (by decide +kernel)), [_], [_], rfl, (known_nat w (j := 55) (ds := [33791]) rfl (by decide) rfl (by decide +kernel) (by decide) (by decide +kernel)), (known_nat w (j := 56) (ds := [2]) rfl (by decide) rfl (by decide +kernel) (by decide) (by decide +kernel))⟩, rfl⟩⟩⟩⟩
set_option maxRecDepth 100000 in
theorem known_data6 (w : World) : RawN.rep (Later w (revAllocs w (knownOs w.heap.size))) (revAllocs w (knownOs w.heap.size)) 4 [.slice (some ⟨w.heap.size + 58, 0, none⟩) 1 1] ∧ StepS.sl.rep (Later w (revAllocs w (knownOs w.heap.size))) (revAllocs w (knownOs w.heap.size)) (knownL 6) [.slice (some ⟨w.heap.size + 71, 0, none⟩) 4 4] := by
  refine ⟨(known_nat w (j := 58) (ds := [4]) rfl (by decide) rfl (by decide +kernel) (by decide) (by decide +kernel)), ?_⟩
  have hr := known_cells w (j := 71) (e := 67) (cs := [.slice (some ⟨w.heap.size + 59, 0, none⟩) 2 2, .slice (some ⟨w.heap.size + 60, 0, none⟩) 2 2, .slice (some ⟨w.heap.size + 61, 0, none⟩) 1 1, .slice (some ⟨w.heap.size + 62, 0, none⟩) 2 2, .slice (some ⟨w.heap.size + 63, 0, none⟩) 1 1, .slice (some ⟨w.heap.size + 64, 0, none⟩) 1 1, .slice (some ⟨w.heap.size + 65, 0, none⟩) 1 1, .slice (some ⟨w.heap.size + 66, 0, none⟩) 1 1, .slice (some ⟨w.heap.size + 67, 0, none⟩) 1 1, .slice (some ⟨w.heap.size + 68, 0, none⟩) 1 1, .slice (some ⟨w.heap.size + 69, 0, none⟩) 1 1, .slice (some ⟨w.heap.size + 70, 0, none⟩) 1 1]) (by decide) rfl
  refine chain_row hr ⟨Nat.lt_add_of_pos_right (by decide), hr.lt⟩ ?_ rfl (by decide)
  exact ⟨[_, _, _], _, rfl, ⟨[_], [_, _], rfl, (known_nat w (j := 59) (ds := [12424001628892243043, 141]) rfl (by decide) rfl (by decide +kernel) (by decide) (by decide +kernel)), [_], [_], rfl, (known_nat w (j := 60) (ds := [15435372851300897329, 70]) rfl (by decide) rfl (by decide +kernel) (by decide) (by decide +kernel)), (known_nat w (j := 61) (ds := [2]) rfl (by decide) rfl (by decide +kernel) (by decide) (by decide +kernel))⟩, ⟨[_, _, _], _, rfl, ⟨[_], [_, _], rfl, (known_nat w (j := 62) (ds := [15435372851300897329, 70]) rfl (by decide) rfl (by decide +kernel) (by decide) (by decide +kernel)), [_], [_], rfl, (known_nat w (j := 63) (ds := [213235551241998941]) rfl (by decide) rfl (by decide +kernel) (by decide) (by decide +kernel)), (known_nat w (j := 64) (ds := [2]) rfl (by decide) rfl (by decide +kernel) (by decide) (by decide +kernel))⟩, ⟨[_, _, _], _, rfl, ⟨[_], [_, _], rfl, (known_nat w (j := 65) (ds := [213235551241998941]) rfl (by decide) rfl (by decide +kernel) (by decide) (by decide +kernel)), [_], [_], rfl, (known_nat w (j := 66) (ds := [869759953]) rfl (by decide) rfl (by decide +kernel) (by decide) (by decide +kernel)), (known_nat w (j := 67) (ds := [2]) rfl (by decide) rfl (by decide +kernel) (by decide) (by decide +kernel))⟩, ⟨[_, _, _], _, rfl, ⟨[_], [_, _], rfl, (known_nat w (j := 68) (ds := [869759953]) rfl (by decide) rfl (by decide +kernel) (by decide) (by decide +kernel)), [_], [_], rfl, (known_nat w (j := 69) (ds := [61843]) rfl (by decide) rfl (by decide +kernel) (by decide) (by decide +kernel)), (known_nat w (j := 70) (ds := [2]) rfl (by decide) rfl (by decide +kernel) (by decide) (by decide +kernel))⟩, rfl⟩⟩⟩⟩
set_option maxRecDepth 100000 in
theorem known_data7 (w : World) : RawN.rep (Later w (revAllocs w (knownOs w.heap.size))) (revAllocs w (knownOs w.heap.size)) 4 [.slice (some ⟨w.heap.size + 72, 0, none⟩) 1 1] ∧ StepS.sl.rep (Later w (revAllocs w (knownOs w.heap.size))) (revAllocs w (knownOs w.heap.size)) (knownL 7) [.slice (some ⟨w.heap.size + 85, 0, none⟩) 4 4] := by
  refine ⟨(known_nat w (j := 72) (ds := [4]) rfl (by decide) rfl (by decide +kernel) (by decide) (by decide +kernel)), ?_⟩
  have hr := known_cells w (j := 85) (e := 67) (cs := [.slice (some ⟨w.heap.size + 73, 0, none⟩) 2 2, .slice (some ⟨w.heap.size + 74, 0, none⟩) 2 2, .slice (some ⟨w.heap.size + 75, 0, none⟩) 1 1, .slice (some ⟨w.heap.size + 76, 0, none⟩) 2 2, .slice (some ⟨w.heap.size + 77, 0, none⟩) 1 1, .slice (some ⟨w.heap.size + 78, 0, none⟩) 1 1, .slice (some ⟨w.heap.size + 79, 0, none⟩) 1 1, .slice (some ⟨w.heap.size + 80, 0, none⟩) 1 1, .slice (some ⟨w.heap.size + 81, 0, none⟩) 1 1, .slice (some ⟨w.heap.size + 82, 0, none⟩) 1 1, .slice (some ⟨w.heap.size + 83, 0, none⟩) 1 1, .slice (some ⟨w.heap.size + 84, 0, none⟩) 1 1]) (by decide) rfl
  refine chain_row hr ⟨Nat.lt_add_of_pos_right (by decide), hr.lt⟩ ?_ rfl (by decide)
  exact ⟨[_, _, _], _, rfl, ⟨[_], [_, _], rfl, (known_nat w (j := 73) (ds := [4808252001440926015, 3011505958]) rfl (by decide) rfl (by decide +kernel) (by decide) (by decide +kernel)), [_], [_], rfl, (known_nat w (j := 74) (ds := [2404126000720463007, 1505752979]) rfl (by decide) rfl (by decide +kernel) (by decide) (by decide +kernel)), (known_nat w (j := 75) (ds := [2]) rfl (by decide) rfl (by decide +kernel) (by decide) (by decide +kernel))⟩, ⟨[_, _, _], _, rfl, ⟨[_], [_, _], rfl, (known_nat w (j := 76) (ds := [2404126000720463007, 1505752979]) rfl (by decide) rfl (by decide +kernel) (by decide) (by decide +kernel)), [_], [_], rfl, (known_nat w (j := 77) (ds := [223751503623384853]) rfl (by decide) rfl (by decide +kernel) (by decide) (by decide +kernel)), (known_nat w (j := 78) (ds := [2]) rfl (by decide) rfl (by decide +kernel) (by decide) (by decide +kernel))⟩, ⟨[_, _, _], _, rfl, ⟨[_], [_, _], rfl, (known_nat w (j := 79) (ds := [223751503623384853]) rfl (by decide) rfl (by decide +kernel) (by decide) (by decide +kernel)), [_], [_], rfl, (known_nat w (j := 80) (ds := [998205391]) rfl (by decide) rfl (by decide +kernel) (by decide) (by decide +kernel)), (known_nat w (j := 81) (ds := [2]) rfl (by decide) rfl (by decide +kernel) (by decide) (by decide +kernel))⟩, ⟨[_, _, _], _, rfl, ⟨[_], [_, _], rfl, (known_nat w (j := 82) (ds := [998205391]) rfl (by decide) rfl (by decide +kernel) (by decide) (by decide +kernel)), [_], [_], rfl, (known_nat w (j := 83) (ds := [40627]) rfl (by decide) rfl (by decide +kernel) (by decide) (by decide +kernel)), (known_nat w (j := 84) (ds := [2]) rfl (by decide) rfl (by decide +kernel) (by decide) (by decide +kernel))⟩, rfl⟩⟩⟩⟩
set_option maxRecDepth 100000 in
theorem known_data8 (w : World) : RawN.rep (Later w (revAllocs w (knownOs w.heap.size))) (revAllocs w (knownOs w.heap.size)) 4 [.slice (some ⟨w.heap.size + 86, 0, none⟩) 1 1] ∧ StepS.sl.rep (Later w (revAllocs w (knownOs w.heap.size))) (revAllocs w (knownOs w.heap.size)) (knownL 8) [.slice (some ⟨w.heap.size + 102, 0, none⟩) 5 5] := by
  refine ⟨(known_nat w (j := 86) (ds := [4]) rfl (by decide) rfl (by decide +kernel) (by decide) (by decide +kernel)), ?_⟩
  have hr := known_cells w (j := 102) (e := 67) (cs := [.slice (some ⟨w.heap.size + 87, 0, none⟩) 2 2, .slice (some ⟨w.heap.size + 88, 0, none⟩) 2 2, .slice (some ⟨w.heap.size + 89, 0, none⟩) 1 1, .slice (some ⟨w.heap.size + 90, 0, none⟩) 2 2, .slice (some ⟨w.heap.size + 91, 0, none⟩) 2 2, .slice (some ⟨w.heap.size + 92, 0, none⟩) 1 1, .slice (some ⟨w.heap.size + 93, 0, none⟩) 2 2, .slice (some ⟨w.heap.size + 94, 0, none⟩) 1 1, .slice (some ⟨w.heap.size + 95, 0, none⟩) 1 1, .slice (some ⟨w.heap.size + 96, 0, none⟩) 1 1, .slice (some ⟨w.heap.size + 97, 0, none⟩) 1 1, .slice (some ⟨w.heap.size + 98, 0, none⟩) 1 1, .slice (some ⟨w.heap.size + 99, 0, none⟩) 1 1, .slice (some ⟨w.heap.size + 100, 0, none⟩) 1 1, .slice (some ⟨w.heap.size + 101, 0, none⟩) 1 1]) (by decide) rfl
  refine chain_row hr ⟨Nat.lt_add_of_pos_right (by decide), hr.lt⟩ ?_ rfl (by decide)
  exact ⟨[_, _, _], _, rfl, ⟨[_], [_, _], rfl, (known_nat w (j := 87) (ds := [2134952957892123371, 15956530409638412463]) rfl (by decide) rfl (by decide +kernel) (by decide) (by decide +kernel)), [_], [_], rfl, (known_nat w (j := 88) (ds := [10290848515800837493, 7978265204819206231]) rfl (by decide) rfl (by decide +kernel) (by decide) (by decide +kernel)), (known_nat w (j := 89) (ds := [2]) rfl (by decide) rfl (by decide +kernel) (by decide) (by decide +kernel))⟩, ⟨[_, _, _], _, rfl, ⟨[_], [_, _], rfl, (known_nat w (j := 90) (ds := [10290848515800837493, 7978265204819206231]) rfl (by decide) rfl (by decide +kernel) (by decide) (by decide +kernel)), [_], [_], rfl, (known_nat w (j := 91) (ds := [11996286182992634747, 863074989703505]) rfl (by decide) rfl (by decide +kernel) (by decide) (by decide +kernel)), (known_nat w (j := 92) (ds := [2]) rfl (by decide) rfl (by decide +kernel) (by decide) (by decide +kernel))⟩, ⟨[_, _, _], _, rfl, ⟨[_], [_, _], rfl, (known_nat w (j := 93) (ds := [11996286182992634747, 863074989703505]) rfl (by decide) rfl (by decide +kernel) (by decide) (by decide +kernel)), [_], [_], rfl, (known_nat w (j := 94) (ds := [193128230530517629]) rfl (by decide) rfl (by decide +kernel) (by decide) (by decide +kernel)), (known_nat w (j := 95) (ds := [2]) rfl (by decide) rfl (by decide +kernel) (by decide) (by decide +kernel))⟩, ⟨[_, _, _], _, rfl, ⟨[_], [_, _], rfl, (known_nat w (j := 96) (ds := [193128230530517629]) rfl (by decide) rfl (by decide +kernel) (by decide) (by decide +kernel)), [_], [_], rfl, (known_nat w (j := 97) (ds := [588713921]) rfl (by decide) rfl (by decide +kernel) (by decide) (by decide +kernel)), (known_nat w (j := 98) (ds := [2]) rfl (by decide) rfl (by decide +kernel) (by decide) (by decide +kernel))⟩, ⟨[_, _, _], _, rfl, ⟨[_], [_, _], rfl, (known_nat w (j := 99) (ds := [588713921]) rfl (by decide) rfl (by decide +kernel) (by decide) (by decide +kernel)), [_], [_], rfl, (known_nat w (j := 100) (ds := [63439]) rfl (by decide) rfl (by decide +kernel) (by decide) (by decide +kernel)), (known_nat w (j := 101) (ds := [2]) rfl (by decide) rfl (by decide +kernel) (by decide) (by decide +kernel))⟩, rfl⟩⟩⟩⟩⟩
set_option maxRecDepth 100000 in
theorem known_data9 (w : World) : RawN.rep (Later w (revAllocs w (knownOs w.heap.size))) (revAllocs w (knownOs w.heap.size)) 4 [.slice (some ⟨w.heap.size + 103, 0, none⟩) 1 1] ∧ StepS.sl.rep (Later w (revAllocs w (knownOs w.heap.size))) (revAllocs w (knownOs w.heap.size)) (knownL 9) [.slice (some ⟨w.heap.size + 119, 0, none⟩) 5 5] := by
  refine ⟨(known_nat w (j := 103) (ds := [4]) rfl (by decide) rfl (by decide +kernel) (by decide) (by decide +kernel)), ?_⟩
  have hr := known_cells w (j := 119) (e := 67) (cs := [.slice (some ⟨w.heap.size + 104, 0, none⟩) 3 3, .slice (some ⟨w.heap.size + 105, 0, none⟩) 3 3, .slice (some ⟨w.heap.size + 106, 0, none⟩) 1 1, .slice (some ⟨w.heap.size + 107, 0, none⟩) 3 3, .slice (some ⟨w.heap.size + 108, 0, none⟩) 2 2, .slice (some ⟨w.heap.size + 109, 0, none⟩) 1 1, .slice (some ⟨w.heap.size + 110, 0, none⟩) 2 2, .slice (some ⟨w.heap.size + 111, 0, none⟩) 1 1, .slice (some ⟨w.heap.size + 112, 0, none⟩) 1 1, .slice (some ⟨w.heap.size + 113, 0, none⟩) 1 1, .slice (some ⟨w.heap.size + 114, 0, none⟩) 1 1, .slice (some ⟨w.heap.size + 115, 0, none⟩) 1 1, .slice (some ⟨w.heap.size + 116, 0, none⟩) 1 1, .slice (some ⟨w.heap.size + 117, 0, none⟩) 1 1, .slice (some ⟨w.heap.size + 118, 0, none⟩) 1 1]) (by decide) rfl
  refine chain_row hr ⟨Nat.lt_add_of_pos_right (by decide), hr.lt⟩ ?_ rfl (by decide)
  exact ⟨[_, _, _], _, rfl, ⟨[_], [_, _], rfl, (known_nat w (j := 104) (ds := [9215473365567259271, 4605804108090883984, 15540118379551537448]) rfl (by decide) rfl (by decide +kernel) (by decide) (by decide +kernel)), [_], [_], rfl, (known_nat w (j := 105) (ds := [4607736682783629635, 2302902054045441992, 7770059189775768724]) rfl (by decide) rfl (by decide +kernel) (by decide) (by decide +kernel)), (known_nat w (j := 106) (ds := [2]) rfl (by decide) rfl (by decide +kernel) (by decide) (by decide +kernel))⟩, ⟨[_, _, _], _, rfl, ⟨[_], [_, _], rfl, (known_nat w (j := 107) (ds := [4607736682783629635, 2302902054045441992, 7770059189775768724]) rfl (by decide) rfl (by decide +kernel) (by decide) (by decide +kernel)), [_], [_], rfl, (known_nat w (j := 108) (ds := [7859188658856360755, 945900106163132]) rfl (by decide) rfl (by decide +kernel) (by decide) (by decide +kernel)), (known_nat w (j := 109) (ds := [2]) rfl (by decide) rfl (by decide +kernel) (by decide) (by decide +kernel))⟩, ⟨[_, _, _], _, rfl, ⟨[_], [_, _], rfl, (known_nat w (j := 110) (ds := [7859188658856360755, 945900106163132]) rfl (by decide) rfl (by decide +kernel) (by decide) (by decide +kernel)), [_], [_], rfl, (known_nat w (j := 111) (ds := [230885128227773927]) rfl (by decide) rfl (by decide +kernel) (by decide) (by decide +kernel)), (known_nat w (j := 112) (ds := [2]) rfl (by decide) rfl (by decide +kernel) (by decide) (by decide +kernel))⟩, ⟨[_, _, _], _, rfl, ⟨[_], [_, _], rfl, (known_nat w (j := 113) (ds := [230885128227773927]) rfl (by decide) rfl (by decide +kernel) (by decide) (by decide +kernel)), [_], [_], rfl, (known_nat w (j := 114) (ds := [725375153]) rfl (by decide) rfl (by decide +kernel) (by decide) (by decide +kernel)), (known_nat w (j := 115) (ds := [2]) rfl (by decide) rfl (by decide +kernel) (by decide) (by decide +kernel))⟩, ⟨[_, _, _], _, rfl, ⟨[_], [_, _], rfl, (known_nat w (j := 116) (ds := [725375153]) rfl (by decide) rfl (by decide +kernel) (by decide) (by decide +kernel)), [_], [_], rfl, (known_nat w (j := 117) (ds := [34847]) rfl (by decide) rfl (by decide +kernel) (by decide) (by decide +kernel)), (known_nat w (j := 118) (ds := [2]) rfl (by decide) rfl (by decide +kernel) (by decide) (by decide +kernel))⟩, rfl⟩⟩⟩⟩⟩
set_option maxRecDepth 100000 in
theorem known_data10 (w : World) : RawN.rep (Later w (revAllocs w (knownOs w.heap.size))) (revAllocs w (knownOs w.heap.size)) 4 [.slice (some ⟨w.heap.size + 120, 0, none⟩) 1 1] ∧ StepS.sl.rep (Later w (revAllocs w (knownOs w.heap.size))) (revAllocs w (knownOs w.heap.size)) (knownL 10) [.slice (some ⟨w.heap.size + 139, 0, none⟩) 6 6] := by
  refine ⟨(known_nat w (j := 120) (ds := [4]) rfl (by decide) rfl (by decide +kernel) (by decide) (by decide +kernel)), ?_⟩
  have hr := known_cells w (j := 139) (e := 67) (cs := [.slice (some ⟨w.heap.size + 121, 0, none⟩) 4 4, .slice (some ⟨w.heap.size + 122, 0, none⟩) 4 4, .slice (some ⟨w.heap.size + 123, 0, none⟩) 1 1, .slice (some ⟨w.heap.size + 124, 0, none⟩) 4 4, .slice (some ⟨w.heap.size + 125, 0, none⟩) 4 4, .slice (some ⟨w.heap.size + 126, 0, none⟩) 1 1, .slice (some ⟨w.heap.size + 127, 0, none⟩) 4 4, .slice (some ⟨w.heap.size + 128, 0, none⟩) 2 2, .slice (some ⟨w.heap.size + 129, 0, none⟩) 1 1, .slice (some ⟨w.heap.size + 130, 0, none⟩) 2 2, .slice (some ⟨w.heap.size + 131, 0, none⟩) 1 1, .slice (some ⟨w.heap.size + 132, 0, none⟩) 1 1, .slice (some ⟨w.heap.size + 133, 0, none⟩) 1 1, .slice (some ⟨w.heap.size + 134, 0, none⟩) 1 1, .slice (some ⟨w.heap.size + 135, 0, none⟩) 1 1, .slice (some ⟨w.heap.size + 136, 0, none⟩) 1 1, .slice (some ⟨w.heap.size + 137, 0, none⟩) 1 1, .slice (some ⟨w.heap.size + 138, 0, none⟩) 1 1]) (by decide) rfl
  refine chain_row hr ⟨Nat.lt_add_of_pos_right (by decide), hr.lt⟩ ?_ rfl (by decide)
  exact ⟨[_, _, _], _, rfl, ⟨[_], [_, _], rfl, (known_nat w (j := 121) (ds := [10799784259066542827, 9606633416393899386, 8878368538482454987, 15746236207369801358]) rfl (by decide) rfl (by decide +kernel) (by decide) (by decide +kernel)), [_], [_], rfl, (known_nat w (j := 122) (ds := [5399892129533271413, 14026688745051725501, 4439184269241227493, 7873118103684900679]) rfl (by decide) rfl (by decide +kernel) (by decide) (by decide +kernel)), (known_nat w (j := 123) (ds := [2]) rfl (by decide) rfl (by decide +kernel) (by decide) (by decide +kernel))⟩, ⟨[_, _, _], _, rfl, ⟨[_], [_, _], rfl, (known_nat w (j := 124) (ds := [5399892129533271413, 14026688745051725501, 4439184269241227493, 7873118103684900679]) rfl (by decide) rfl (by decide +kernel) (by decide) (by decide +kernel)), [_], [_], rfl, (known_nat w (j := 125) (ds := [2128832344054565539, 5188484454565121284, 11588479929783459793, 11392430636]) rfl (by decide) rfl (by decide +kernel) (by decide) (by decide +kernel)), (known_nat w (j := 126) (ds := [2]) rfl (by decide) rfl (by decide +kernel) (by decide) (by decide +kernel))⟩, ⟨[_, _, _], _, rfl, ⟨[_], [_, _], rfl, (known_nat w (j := 127) (ds := [2128832344054565539, 5188484454565121284, 11588479929783459793, 11392430636]) rfl (by decide) rfl (by decide +kernel) (by decide) (by decide +kernel)), [_], [_], rfl, (known_nat w (j := 128) (ds := [7363949757740889991, 947980809119916]) rfl (by decide) rfl (by decide +kernel) (by decide) (by decide +kernel)), (known_nat w (j := 129) (ds := [2]) rfl (by decide) rfl (by decide +kernel) (by decide) (by decide +kernel))⟩, ⟨[_, _, _], _, rfl, ⟨[_], [_, _], rfl, (known_nat w (j := 130) (ds := [7363949757740889991, 947980809119916]) rfl (by decide) rfl (by decide +kernel) (by decide) (by decide +kernel)), [_], [_], rfl, (known_nat w (j := 131) (ds := [238236089707193629]) rfl (by decide) rfl (by decide +kernel) (by decide) (by decide +kernel)), (known_nat w (j := 132) (ds := [2]) rfl (by decide) rfl (by decide +kernel) (by decide) (by decide +kernel))⟩, ⟨[_, _, _], _, rfl, ⟨[_], [_, _], rfl, (known_nat w (j := 133) (ds := [238236089707193629]) rfl (by decide) rfl (by decide +kernel) (by decide) (by decide +kernel)), [_], [_], rfl, (known_nat w (j := 134) (ds := [902893669]) rfl (by decide) rfl (by decide +kernel) (by decide) (by decide +kernel)), (known_nat w (j := 135) (ds := [2]) rfl (by decide) rfl (by decide +kernel) (by decide) (by decide +kernel))⟩, ⟨[_, _, _], _, rfl, ⟨[_], [_, _], rfl, (known_nat w (j := 136) (ds := [902893669]) rfl (by decide) rfl (by decide +kernel) (by decide) (by decide +kernel)), [_], [_], rfl, (known_nat w (j := 137) (ds := [36901]) rfl (by decide) rfl (by decide +kernel) (by decide) (by decide +kernel)), (known_nat w (j := 138) (ds := [2]) rfl (by decide) rfl (by decide +kernel) (by decide) (by decide +kernel))⟩, rfl⟩⟩⟩⟩⟩⟩
theorem known_last (w : World) : Row (revAllocs w (knownOs w.heap.size)) (w.heap.size + 140) 55 [.slice (some ⟨w.heap.size + 1, 0, none⟩) 1 1, .slice (some ⟨w.heap.size + 5, 0, none⟩) 1 1, .slice (some ⟨w.heap.size + 6, 0, none⟩) 1 1, .slice (some ⟨w.heap.size + 13, 0, none⟩) 2 2, .slice (some ⟨w.heap.size + 14, 0, none⟩) 1 1, .slice (some ⟨w.heap.size + 21, 0, none⟩) 2 2, .slice (some ⟨w.heap.size + 22, 0, none⟩) 1 1, .slice (some ⟨w.heap.size + 32, 0, none⟩) 3 3, .slice (some ⟨w.heap.size + 33, 0, none⟩) 1 1, .slice (some ⟨w.heap.size + 43, 0, none⟩) 3 3, .slice (some ⟨w.heap.size + 44, 0, none⟩) 1 1, .slice (some ⟨w.heap.size + 57, 0, none⟩) 4 4, .slice (some ⟨w.heap.size + 58, 0, none⟩) 1 1, .slice (some ⟨w.heap.size + 71, 0, none⟩) 4 4, .slice (some ⟨w.heap.size + 72, 0, none⟩) 1 1, .slice (some ⟨w.heap.size + 85, 0, none⟩) 4 4, .slice (some ⟨w.heap.size + 86, 0, none⟩) 1 1, .slice (some ⟨w.heap.size + 102, 0, none⟩) 5 5, .slice (some ⟨w.heap.size + 103, 0, none⟩) 1 1, .slice (some ⟨w.heap.size + 119, 0, none⟩) 5 5, .slice (some ⟨w.heap.size + 120, 0, none⟩) 1 1, .slice (some ⟨w.heap.size + 139, 0, none⟩) 6 6] := known_cells w (by decide) rfl
theorem known_first (w : World) : Row (revAllocs w (knownOs w.heap.size)) (w.heap.size + 0) 55 [.slice none 0 0, .slice none 0 0] := known_cells w (by decide) rfl
/-- the k-th one's cells, and what they say -/
theorem known_data (w : World) : ∀ k, k < 11 → ∃ vg vc, (revAllocs w (knownOs w.heap.size)).cell? ⟨w.heap.size + 140, k * 2, none⟩ = some vg ∧ (revAllocs w (knownOs w.heap.size)).cell? ⟨w.heap.size + 140, k * 2 + 1, none⟩ = some vc ∧
    RawN.rep (Later w (revAllocs w (knownOs w.heap.size))) (revAllocs w (knownOs w.heap.size)) 4 [vg] ∧ StepS.sl.rep (Later w (revAllocs w (knownOs w.heap.size))) (revAllocs w (knownOs w.heap.size)) (knownL k) [vc]
  | 0, _ => ⟨_, _, (known_last w).cell 0 (by simp), (known_last w).cell 1 (by simp), (known_data0 w).1, (known_data0 w).2⟩
  | 1, _ => ⟨_, _, (known_last w).cell 2 (by simp), (known_last w).cell 3 (by simp), (known_data1 w).1, (known_data1 w).2⟩
  | 2, _ => ⟨_, _, (known_last w).cell 4 (by simp), (known_last w).cell 5 (by simp), (known_data2 w).1, (known_data2 w).2⟩
  | 3, _ => ⟨_, _, (known_last w).cell 6 (by simp), (known_last w).cell 7 (by simp), (known_data3 w).1, (known_data3 w).2⟩
  | 4, _ => ⟨_, _, (known_last w).cell 8 (by simp), (known_last w).cell 9 (by simp), (known_data4 w).1, (known_data4 w).2⟩
  | 5, _ => ⟨_, _, (known_last w).cell 10 (by simp), (known_last w).cell 11 (by simp), (known_data5 w).1, (known_data5 w).2⟩
  | 6, _ => ⟨_, _, (known_last w).cell 12 (by simp), (known_last w).cell 13 (by simp), (known_data6 w).1, (known_data6 w).2⟩
  | 7, _ => ⟨_, _, (known_last w).cell 14 (by simp), (known_last w).cell 15 (by simp), (known_data7 w).1, (known_data7 w).2⟩
  | 8, _ => ⟨_, _, (known_last w).cell 16 (by simp), (known_last w).cell 17 (by simp), (known_data8 w).1, (known_data8 w).2⟩
  | 9, _ => ⟨_, _, (known_last w).cell 18 (by simp), (known_last w).cell 19 (by simp), (known_data9 w).1, (known_data9 w).2⟩
  | 10, _ => ⟨_, _, (known_last w).cell 20 (by simp), (known_last w).cell 21 (by simp), (known_data10 w).1, (known_data10 w).2⟩
  | k + 11, h => absurd h (by omega)

end Go.Proofs.Ytphbacggmhjmgaa
