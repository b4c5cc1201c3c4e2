/- The groups that are known, told; strings of bytes. -/
import Derived.Test.YtphbacggmhjmgaaGrpM
import Derived.Test.YtphbacggmhjmgaaNatR
import Derived.Test.YtphbacggmhjmgaaLaw
import Derived.Laws.IdiomStrings

/- The groups that are known, told: the memory that they are told in, and the walk. (Printed by gen_known2.py.) -/
namespace Go.Proofs.Ytphbacggmhjmgaa
open Go.RowKit

/-- what was made, the last first -/
def revAllocs (w : World) : List Obj → World
  | [] => w
  | o :: os => (revAllocs w os).alloc o
theorem revAllocs_size (w : World) : ∀ os, (revAllocs w os).heap.size = w.heap.size + os.length
  | [] => rfl
  | o :: os => by
    have := revAllocs_size w os
    simp only [revAllocs, List.length_cons]
    rw [show ((revAllocs w os).alloc o).heap.size = (revAllocs w os).heap.size + 1 by simp, this]; omega
theorem revAllocs_below (w : World) : ∀ os, Below w.heap.size w (revAllocs w os)
  | [] => Below.refl _ _
  | o :: os => below_alloc (revAllocs_below w os) o
theorem revAllocs_row (w : World) {cs : List Value} {e : TypeId} : ∀ (os : List Obj) (j : Nat), j < os.length → os[os.length - 1 - j]? = some (.cells cs.toArray e) → Row (revAllocs w os) (w.heap.size + j) e cs
  | [], j, h, _ => by simp at h
  | o :: os, j, h, he => by
    simp only [List.length_cons] at h he
    rcases Nat.lt_or_ge j os.length with h1 | h1
    · have ih := revAllocs_row w os j h1 (by rw [show os.length + 1 - 1 - j = os.length - 1 - j + 1 by omega, List.getElem?_cons_succ] at he; exact he)
      exact ih.alloc o
    · obtain rfl : os.length = j := by omega
      rw [show os.length + 1 - 1 - os.length = 0 by omega, List.getElem?_cons_zero] at he
      injection he with he
      subst he
      have := Row.new (revAllocs w os) e cs.toArray
      rw [revAllocs_size] at this
      exact this

section
variable {ops : Array Oper} {rest : List Oper} {a : Act} {Q : Exit → Act → World → Prop} {w w0 : World} {d : Tmp} {ty : TypeId} {pos : String} {af : Array Edge} {os : List Obj} {B j j' : Nat}
theorem lit_step {op : Op} {v : Value} {ob : Obj} (hrun : ∀ K : Act → World → Prop, ∀ W : World, W.heap.size = B + j → K (a.put (some d) v) (W.alloc ob) → Oper.wp Try.prog ⟨some d, op, ty, pos, af, none⟩ a W K Q)
    (hw : Hid (w = revAllocs w0 os)) (hs : Hid (w.heap.size = B + j)) (hj : j + 1 = j')
    (h : ∀ W', Hid (W' = revAllocs w0 (ob :: os)) → Hid (W'.heap.size = B + j') → wpList Try.prog ops Q rest (a.put (some d) v) W') : wpList Try.prog ops Q (⟨some d, op, ty, pos, af, none⟩ :: rest) a w := by
  refine wpList_plain rfl fun K hK => ?_
  refine hrun K w hs.out (hK _ _ (h _ ?_ ?_))
  · show _ = _
    rw [hw.out]; rfl
  · show _ = _
    rw [show (w.alloc ob).heap.size = w.heap.size + 1 by simp, hs.out]; omega

theorem lit_nat1 (x0 : Int) (hw : Hid (w = revAllocs w0 os)) (hs : Hid (w.heap.size = B + j)) (hj : j + 1 = j')
    (h : ∀ W', Hid (W' = revAllocs w0 (.cells #[.int .u64 x0] 65 :: os)) → Hid (W'.heap.size = B + j') → wpList Try.prog ops Q rest (a.put (some d) (.slice (some ⟨B + j, 0, none⟩) 1 1)) W') :
    wpList Try.prog ops Q (⟨some d, .buildSlice 24 1 #[(0, .const (.int .u64 x0))], ty, pos, af, none⟩ :: rest) a w := by
  refine lit_step (fun K W hW hK => ?_) hw hs hj h
  unfold Oper.wp execOp
  go_simp
  exact hK
theorem lit_nat2 (x0 x1 : Int) (hw : Hid (w = revAllocs w0 os)) (hs : Hid (w.heap.size = B + j)) (hj : j + 1 = j')
    (h : ∀ W', Hid (W' = revAllocs w0 (.cells #[.int .u64 x0, .int .u64 x1] 65 :: os)) → Hid (W'.heap.size = B + j') → wpList Try.prog ops Q rest (a.put (some d) (.slice (some ⟨B + j, 0, none⟩) 2 2)) W') :
    wpList Try.prog ops Q (⟨some d, .buildSlice 24 2 #[(0, .const (.int .u64 x0)), (1, .const (.int .u64 x1))], ty, pos, af, none⟩ :: rest) a w := by
  refine lit_step (fun K W hW hK => ?_) hw hs hj h
  unfold Oper.wp execOp
  go_simp
  exact hK
theorem lit_nat3 (x0 x1 x2 : Int) (hw : Hid (w = revAllocs w0 os)) (hs : Hid (w.heap.size = B + j)) (hj : j + 1 = j')
    (h : ∀ W', Hid (W' = revAllocs w0 (.cells #[.int .u64 x0, .int .u64 x1, .int .u64 x2] 65 :: os)) → Hid (W'.heap.size = B + j') → wpList Try.prog ops Q rest (a.put (some d) (.slice (some ⟨B + j, 0, none⟩) 3 3)) W') :
    wpList Try.prog ops Q (⟨some d, .buildSlice 24 3 #[(0, .const (.int .u64 x0)), (1, .const (.int .u64 x1)), (2, .const (.int .u64 x2))], ty, pos, af, none⟩ :: rest) a w := by
  refine lit_step (fun K W hW hK => ?_) hw hs hj h
  unfold Oper.wp execOp
  go_simp
  exact hK
theorem lit_nat4 (x0 x1 x2 x3 : Int) (hw : Hid (w = revAllocs w0 os)) (hs : Hid (w.heap.size = B + j)) (hj : j + 1 = j')
    (h : ∀ W', Hid (W' = revAllocs w0 (.cells #[.int .u64 x0, .int .u64 x1, .int .u64 x2, .int .u64 x3] 65 :: os)) → Hid (W'.heap.size = B + j') → wpList Try.prog ops Q rest (a.put (some d) (.slice (some ⟨B + j, 0, none⟩) 4 4)) W') :
    wpList Try.prog ops Q (⟨some d, .buildSlice 24 4 #[(0, .const (.int .u64 x0)), (1, .const (.int .u64 x1)), (2, .const (.int .u64 x2)), (3, .const (.int .u64 x3))], ty, pos, af, none⟩ :: rest) a w := by
  refine lit_step (fun K W hW hK => ?_) hw hs hj h
  unfold Oper.wp execOp
  go_simp
  exact hK
theorem lit_chain1 {p0 q0 a0 : Value} {t0 : Tmp} (e0 : a.tmps[t0]?.getD undef = .agg #[p0, q0, a0]) (hw : Hid (w = revAllocs w0 os)) (hs : Hid (w.heap.size = B + j)) (hj : j + 1 = j')
    (h : ∀ W', Hid (W' = revAllocs w0 (.cells #[p0, q0, a0] 67 :: os)) → Hid (W'.heap.size = B + j') → wpList Try.prog ops Q rest (a.put (some d) (.slice (some ⟨B + j, 0, none⟩) 1 1)) W') :
    wpList Try.prog ops Q (⟨some d, .buildSlice 53 1 #[(0, .tmp t0)], ty, pos, af, none⟩ :: rest) a w := by
  refine lit_step (fun K W hW hK => ?_) hw hs hj h
  unfold Oper.wp execOp
  go_simp
  exact hK
theorem lit_chain2 {p0 q0 a0 p1 q1 a1 : Value} {t0 t1 : Tmp} (e0 : a.tmps[t0]?.getD undef = .agg #[p0, q0, a0]) (e1 : a.tmps[t1]?.getD undef = .agg #[p1, q1, a1]) (hw : Hid (w = revAllocs w0 os)) (hs : Hid (w.heap.size = B + j)) (hj : j + 1 = j')
    (h : ∀ W', Hid (W' = revAllocs w0 (.cells #[p0, q0, a0, p1, q1, a1] 67 :: os)) → Hid (W'.heap.size = B + j') → wpList Try.prog ops Q rest (a.put (some d) (.slice (some ⟨B + j, 0, none⟩) 2 2)) W') :
    wpList Try.prog ops Q (⟨some d, .buildSlice 53 2 #[(0, .tmp t0), (1, .tmp t1)], ty, pos, af, none⟩ :: rest) a w := by
  refine lit_step (fun K W hW hK => ?_) hw hs hj h
  unfold Oper.wp execOp
  go_simp
  exact hK
theorem lit_chain3 {p0 q0 a0 p1 q1 a1 p2 q2 a2 : Value} {t0 t1 t2 : Tmp} (e0 : a.tmps[t0]?.getD undef = .agg #[p0, q0, a0]) (e1 : a.tmps[t1]?.getD undef = .agg #[p1, q1, a1]) (e2 : a.tmps[t2]?.getD undef = .agg #[p2, q2, a2]) (hw : Hid (w = revAllocs w0 os)) (hs : Hid (w.heap.size = B + j)) (hj : j + 1 = j')
    (h : ∀ W', Hid (W' = revAllocs w0 (.cells #[p0, q0, a0, p1, q1, a1, p2, q2, a2] 67 :: os)) → Hid (W'.heap.size = B + j') → wpList Try.prog ops Q rest (a.put (some d) (.slice (some ⟨B + j, 0, none⟩) 3 3)) W') :
    wpList Try.prog ops Q (⟨some d, .buildSlice 53 3 #[(0, .tmp t0), (1, .tmp t1), (2, .tmp t2)], ty, pos, af, none⟩ :: rest) a w := by
  refine lit_step (fun K W hW hK => ?_) hw hs hj h
  unfold Oper.wp execOp
  go_simp
  exact hK
theorem lit_chain4 {p0 q0 a0 p1 q1 a1 p2 q2 a2 p3 q3 a3 : Value} {t0 t1 t2 t3 : Tmp} (e0 : a.tmps[t0]?.getD undef = .agg #[p0, q0, a0]) (e1 : a.tmps[t1]?.getD undef = .agg #[p1, q1, a1]) (e2 : a.tmps[t2]?.getD undef = .agg #[p2, q2, a2]) (e3 : a.tmps[t3]?.getD undef = .agg #[p3, q3, a3]) (hw : Hid (w = revAllocs w0 os)) (hs : Hid (w.heap.size = B + j)) (hj : j + 1 = j')
    (h : ∀ W', Hid (W' = revAllocs w0 (.cells #[p0, q0, a0, p1, q1, a1, p2, q2, a2, p3, q3, a3] 67 :: os)) → Hid (W'.heap.size = B + j') → wpList Try.prog ops Q rest (a.put (some d) (.slice (some ⟨B + j, 0, none⟩) 4 4)) W') :
    wpList Try.prog ops Q (⟨some d, .buildSlice 53 4 #[(0, .tmp t0), (1, .tmp t1), (2, .tmp t2), (3, .tmp t3)], ty, pos, af, none⟩ :: rest) a w := by
  refine lit_step (fun K W hW hK => ?_) hw hs hj h
  unfold Oper.wp execOp
  go_simp
  exact hK
theorem lit_chain5 {p0 q0 a0 p1 q1 a1 p2 q2 a2 p3 q3 a3 p4 q4 a4 : Value} {t0 t1 t2 t3 t4 : Tmp} (e0 : a.tmps[t0]?.getD undef = .agg #[p0, q0, a0]) (e1 : a.tmps[t1]?.getD undef = .agg #[p1, q1, a1]) (e2 : a.tmps[t2]?.getD undef = .agg #[p2, q2, a2]) (e3 : a.tmps[t3]?.getD undef = .agg #[p3, q3, a3]) (e4 : a.tmps[t4]?.getD undef = .agg #[p4, q4, a4]) (hw : Hid (w = revAllocs w0 os)) (hs : Hid (w.heap.size = B + j)) (hj : j + 1 = j')
    (h : ∀ W', Hid (W' = revAllocs w0 (.cells #[p0, q0, a0, p1, q1, a1, p2, q2, a2, p3, q3, a3, p4, q4, a4] 67 :: os)) → Hid (W'.heap.size = B + j') → wpList Try.prog ops Q rest (a.put (some d) (.slice (some ⟨B + j, 0, none⟩) 5 5)) W') :
    wpList Try.prog ops Q (⟨some d, .buildSlice 53 5 #[(0, .tmp t0), (1, .tmp t1), (2, .tmp t2), (3, .tmp t3), (4, .tmp t4)], ty, pos, af, none⟩ :: rest) a w := by
  refine lit_step (fun K W hW hK => ?_) hw hs hj h
  unfold Oper.wp execOp
  go_simp
  exact hK
theorem lit_chain6 {p0 q0 a0 p1 q1 a1 p2 q2 a2 p3 q3 a3 p4 q4 a4 p5 q5 a5 : Value} {t0 t1 t2 t3 t4 t5 : Tmp} (e0 : a.tmps[t0]?.getD undef = .agg #[p0, q0, a0]) (e1 : a.tmps[t1]?.getD undef = .agg #[p1, q1, a1]) (e2 : a.tmps[t2]?.getD undef = .agg #[p2, q2, a2]) (e3 : a.tmps[t3]?.getD undef = .agg #[p3, q3, a3]) (e4 : a.tmps[t4]?.getD undef = .agg #[p4, q4, a4]) (e5 : a.tmps[t5]?.getD undef = .agg #[p5, q5, a5]) (hw : Hid (w = revAllocs w0 os)) (hs : Hid (w.heap.size = B + j)) (hj : j + 1 = j')
    (h : ∀ W', Hid (W' = revAllocs w0 (.cells #[p0, q0, a0, p1, q1, a1, p2, q2, a2, p3, q3, a3, p4, q4, a4, p5, q5, a5] 67 :: os)) → Hid (W'.heap.size = B + j') → wpList Try.prog ops Q rest (a.put (some d) (.slice (some ⟨B + j, 0, none⟩) 6 6)) W') :
    wpList Try.prog ops Q (⟨some d, .buildSlice 53 6 #[(0, .tmp t0), (1, .tmp t1), (2, .tmp t2), (3, .tmp t3), (4, .tmp t4), (5, .tmp t5)], ty, pos, af, none⟩ :: rest) a w := by
  refine lit_step (fun K W hW hK => ?_) hw hs hj h
  unfold Oper.wp execOp
  go_simp
  exact hK
theorem lit_all {g0 c0 g1 c1 g2 c2 g3 c3 g4 c4 g5 c5 g6 c6 g7 c7 g8 c8 g9 c9 g10 c10 : Value} {t0 t1 t2 t3 t4 t5 t6 t7 t8 t9 t10 : Tmp} (e0 : a.tmps[t0]?.getD undef = .agg #[g0, c0]) (e1 : a.tmps[t1]?.getD undef = .agg #[g1, c1]) (e2 : a.tmps[t2]?.getD undef = .agg #[g2, c2]) (e3 : a.tmps[t3]?.getD undef = .agg #[g3, c3]) (e4 : a.tmps[t4]?.getD undef = .agg #[g4, c4]) (e5 : a.tmps[t5]?.getD undef = .agg #[g5, c5]) (e6 : a.tmps[t6]?.getD undef = .agg #[g6, c6]) (e7 : a.tmps[t7]?.getD undef = .agg #[g7, c7]) (e8 : a.tmps[t8]?.getD undef = .agg #[g8, c8]) (e9 : a.tmps[t9]?.getD undef = .agg #[g9, c9]) (e10 : a.tmps[t10]?.getD undef = .agg #[g10, c10]) (hw : Hid (w = revAllocs w0 os)) (hs : Hid (w.heap.size = B + j)) (hj : j + 1 = j')
    (h : ∀ W', Hid (W' = revAllocs w0 (.cells #[g0, c0, g1, c1, g2, c2, g3, c3, g4, c4, g5, c5, g6, c6, g7, c7, g8, c8, g9, c9, g10, c10] 55 :: os)) → Hid (W'.heap.size = B + j') → wpList Try.prog ops Q rest (a.put (some d) (.slice (some ⟨B + j, 0, none⟩) 11 11)) W') :
    wpList Try.prog ops Q (⟨some d, .buildSlice 91 11 #[(0, .tmp t0), (1, .tmp t1), (2, .tmp t2), (3, .tmp t3), (4, .tmp t4), (5, .tmp t5), (6, .tmp t6), (7, .tmp t7), (8, .tmp t8), (9, .tmp t9), (10, .tmp t10)], ty, pos, af, none⟩ :: rest) a w := by
  refine lit_step (fun K W hW hK => ?_) hw hs hj h
  unfold Oper.wp execOp
  go_simp
  exact hK
end
/-- the chains that are known, by their digits -/
def knownD : Nat → List DStep
  | 0 => [([100547], [50273], [2])]
  | 1 => [([16384079], [8192039], [2]), ([8192039], [42227], [2])]
  | 2 => [([895270319], [447635159], [2]), ([447635159], [45949], [2])]
  | 3 => [([956960304107], [478480152053], [2]), ([478480152053], [589261271], [2]), ([589261271], [44879], [2])]
  | 4 => [([51637240540054787], [25818620270027393], [2]), ([25818620270027393], [962912257], [2]), ([962912257], [39181], [2])]
  | 5 => [([10783903794068798759], [5391951897034399379], [2]), ([5391951897034399379], [245088722592472699], [2]), ([245088722592472699], [540926329], [2]), ([540926329], [33791], [2])]
  | 6 => [([12424001628892243043, 141], [15435372851300897329, 70], [2]), ([15435372851300897329, 70], [213235551241998941], [2]), ([213235551241998941], [869759953], [2]), ([869759953], [61843], [2])]
  | 7 => [([4808252001440926015, 3011505958], [2404126000720463007, 1505752979], [2]), ([2404126000720463007, 1505752979], [223751503623384853], [2]), ([223751503623384853], [998205391], [2]), ([998205391], [40627], [2])]
  | 8 => [([2134952957892123371, 15956530409638412463], [10290848515800837493, 7978265204819206231], [2]), ([10290848515800837493, 7978265204819206231], [11996286182992634747, 863074989703505], [2]), ([11996286182992634747, 863074989703505], [193128230530517629], [2]), ([193128230530517629], [588713921], [2]), ([588713921], [63439], [2])]
  | 9 => [([9215473365567259271, 4605804108090883984, 15540118379551537448], [4607736682783629635, 2302902054045441992, 7770059189775768724], [2]), ([4607736682783629635, 2302902054045441992, 7770059189775768724], [7859188658856360755, 945900106163132], [2]), ([7859188658856360755, 945900106163132], [230885128227773927], [2]), ([230885128227773927], [725375153], [2]), ([725375153], [34847], [2])]
  | _ => [([10799784259066542827, 9606633416393899386, 8878368538482454987, 15746236207369801358], [5399892129533271413, 14026688745051725501, 4439184269241227493, 7873118103684900679], [2]), ([5399892129533271413, 14026688745051725501, 4439184269241227493, 7873118103684900679], [2128832344054565539, 5188484454565121284, 11588479929783459793, 11392430636], [2]), ([2128832344054565539, 5188484454565121284, 11588479929783459793, 11392430636], [7363949757740889991, 947980809119916], [2]), ([7363949757740889991, 947980809119916], [238236089707193629], [2]), ([238236089707193629], [902893669], [2]), ([902893669], [36901], [2])]
theorem knownD_val : ∀ k, k < 11 → (knownD k).map dv = knownL k ∧ ((knownD k).all fun t => decide (t.1.length ≤ 4 ∧ t.2.1.length ≤ 4 ∧ t.2.2.length ≤ 4)) = true := by decide +kernel
/-- the memory that they are told in, the last first; from block B on -/
def knownOs (B : Nat) : List Obj :=
  (.cells #[.slice (some ⟨B + 1, 0, none⟩) 1 1, .slice (some ⟨B + 5, 0, none⟩) 1 1, .slice (some ⟨B + 6, 0, none⟩) 1 1, .slice (some ⟨B + 13, 0, none⟩) 2 2, .slice (some ⟨B + 14, 0, none⟩) 1 1, .slice (some ⟨B + 21, 0, none⟩) 2 2, .slice (some ⟨B + 22, 0, none⟩) 1 1, .slice (some ⟨B + 32, 0, none⟩) 3 3, .slice (some ⟨B + 33, 0, none⟩) 1 1, .slice (some ⟨B + 43, 0, none⟩) 3 3, .slice (some ⟨B + 44, 0, none⟩) 1 1, .slice (some ⟨B + 57, 0, none⟩) 4 4, .slice (some ⟨B + 58, 0, none⟩) 1 1, .slice (some ⟨B + 71, 0, none⟩) 4 4, .slice (some ⟨B + 72, 0, none⟩) 1 1, .slice (some ⟨B + 85, 0, none⟩) 4 4, .slice (some ⟨B + 86, 0, none⟩) 1 1, .slice (some ⟨B + 102, 0, none⟩) 5 5, .slice (some ⟨B + 103, 0, none⟩) 1 1, .slice (some ⟨B + 119, 0, none⟩) 5 5, .slice (some ⟨B + 120, 0, none⟩) 1 1, .slice (some ⟨B + 139, 0, none⟩) 6 6] 55) ::
  (.cells #[.slice (some ⟨B + 121, 0, none⟩) 4 4, .slice (some ⟨B + 122, 0, none⟩) 4 4, .slice (some ⟨B + 123, 0, none⟩) 1 1, .slice (some ⟨B + 124, 0, none⟩) 4 4, .slice (some ⟨B + 125, 0, none⟩) 4 4, .slice (some ⟨B + 126, 0, none⟩) 1 1, .slice (some ⟨B + 127, 0, none⟩) 4 4, .slice (some ⟨B + 128, 0, none⟩) 2 2, .slice (some ⟨B + 129, 0, none⟩) 1 1, .slice (some ⟨B + 130, 0, none⟩) 2 2, .slice (some ⟨B + 131, 0, none⟩) 1 1, .slice (some ⟨B + 132, 0, none⟩) 1 1, .slice (some ⟨B + 133, 0, none⟩) 1 1, .slice (some ⟨B + 134, 0, none⟩) 1 1, .slice (some ⟨B + 135, 0, none⟩) 1 1, .slice (some ⟨B + 136, 0, none⟩) 1 1, .slice (some ⟨B + 137, 0, none⟩) 1 1, .slice (some ⟨B + 138, 0, none⟩) 1 1] 67) ::
  (.cells #[.int .u64 2] 65) ::
  (.cells #[.int .u64 36901] 65) ::
  (.cells #[.int .u64 902893669] 65) ::
  (.cells #[.int .u64 2] 65) ::
  (.cells #[.int .u64 902893669] 65) ::
  (.cells #[.int .u64 238236089707193629] 65) ::
  (.cells #[.int .u64 2] 65) ::
  (.cells #[.int .u64 238236089707193629] 65) ::
  (.cells #[.int .u64 7363949757740889991, .int .u64 947980809119916] 65) ::
  (.cells #[.int .u64 2] 65) ::
  (.cells #[.int .u64 7363949757740889991, .int .u64 947980809119916] 65) ::
  (.cells #[.int .u64 2128832344054565539, .int .u64 5188484454565121284, .int .u64 11588479929783459793, .int .u64 11392430636] 65) ::
  (.cells #[.int .u64 2] 65) ::
  (.cells #[.int .u64 2128832344054565539, .int .u64 5188484454565121284, .int .u64 11588479929783459793, .int .u64 11392430636] 65) ::
  (.cells #[.int .u64 5399892129533271413, .int .u64 14026688745051725501, .int .u64 4439184269241227493, .int .u64 7873118103684900679] 65) ::
  (.cells #[.int .u64 2] 65) ::
  (.cells #[.int .u64 5399892129533271413, .int .u64 14026688745051725501, .int .u64 4439184269241227493, .int .u64 7873118103684900679] 65) ::
  (.cells #[.int .u64 10799784259066542827, .int .u64 9606633416393899386, .int .u64 8878368538482454987, .int .u64 15746236207369801358] 65) ::
  (.cells #[.int .u64 4] 65) ::
  (.cells #[.slice (some ⟨B + 104, 0, none⟩) 3 3, .slice (some ⟨B + 105, 0, none⟩) 3 3, .slice (some ⟨B + 106, 0, none⟩) 1 1, .slice (some ⟨B + 107, 0, none⟩) 3 3, .slice (some ⟨B + 108, 0, none⟩) 2 2, .slice (some ⟨B + 109, 0, none⟩) 1 1, .slice (some ⟨B + 110, 0, none⟩) 2 2, .slice (some ⟨B + 111, 0, none⟩) 1 1, .slice (some ⟨B + 112, 0, none⟩) 1 1, .slice (some ⟨B + 113, 0, none⟩) 1 1, .slice (some ⟨B + 114, 0, none⟩) 1 1, .slice (some ⟨B + 115, 0, none⟩) 1 1, .slice (some ⟨B + 116, 0, none⟩) 1 1, .slice (some ⟨B + 117, 0, none⟩) 1 1, .slice (some ⟨B + 118, 0, none⟩) 1 1] 67) ::
  (.cells #[.int .u64 2] 65) ::
  (.cells #[.int .u64 34847] 65) ::
  (.cells #[.int .u64 725375153] 65) ::
  (.cells #[.int .u64 2] 65) ::
  (.cells #[.int .u64 725375153] 65) ::
  (.cells #[.int .u64 230885128227773927] 65) ::
  (.cells #[.int .u64 2] 65) ::
  (.cells #[.int .u64 230885128227773927] 65) ::
  (.cells #[.int .u64 7859188658856360755, .int .u64 945900106163132] 65) ::
  (.cells #[.int .u64 2] 65) ::
  (.cells #[.int .u64 7859188658856360755, .int .u64 945900106163132] 65) ::
  (.cells #[.int .u64 4607736682783629635, .int .u64 2302902054045441992, .int .u64 7770059189775768724] 65) ::
  (.cells #[.int .u64 2] 65) ::
  (.cells #[.int .u64 4607736682783629635, .int .u64 2302902054045441992, .int .u64 7770059189775768724] 65) ::
  (.cells #[.int .u64 9215473365567259271, .int .u64 4605804108090883984, .int .u64 15540118379551537448] 65) ::
  (.cells #[.int .u64 4] 65) ::
  (.cells #[.slice (some ⟨B + 87, 0, none⟩) 2 2, .slice (some ⟨B + 88, 0, none⟩) 2 2, .slice (some ⟨B + 89, 0, none⟩) 1 1, .slice (some ⟨B + 90, 0, none⟩) 2 2, .slice (some ⟨B + 91, 0, none⟩) 2 2, .slice (some ⟨B + 92, 0, none⟩) 1 1, .slice (some ⟨B + 93, 0, none⟩) 2 2, .slice (some ⟨B + 94, 0, none⟩) 1 1, .slice (some ⟨B + 95, 0, none⟩) 1 1, .slice (some ⟨B + 96, 0, none⟩) 1 1, .slice (some ⟨B + 97, 0, none⟩) 1 1, .slice (some ⟨B + 98, 0, none⟩) 1 1, .slice (some ⟨B + 99, 0, none⟩) 1 1, .slice (some ⟨B + 100, 0, none⟩) 1 1, .slice (some ⟨B + 101, 0, none⟩) 1 1] 67) ::
  (.cells #[.int .u64 2] 65) ::
  (.cells #[.int .u64 63439] 65) ::
  (.cells #[.int .u64 588713921] 65) ::
  (.cells #[.int .u64 2] 65) ::
  (.cells #[.int .u64 588713921] 65) ::
  (.cells #[.int .u64 193128230530517629] 65) ::
  (.cells #[.int .u64 2] 65) ::
  (.cells #[.int .u64 193128230530517629] 65) ::
  (.cells #[.int .u64 11996286182992634747, .int .u64 863074989703505] 65) ::
  (.cells #[.int .u64 2] 65) ::
  (.cells #[.int .u64 11996286182992634747, .int .u64 863074989703505] 65) ::
  (.cells #[.int .u64 10290848515800837493, .int .u64 7978265204819206231] 65) ::
  (.cells #[.int .u64 2] 65) ::
  (.cells #[.int .u64 10290848515800837493, .int .u64 7978265204819206231] 65) ::
  (.cells #[.int .u64 2134952957892123371, .int .u64 15956530409638412463] 65) ::
  (.cells #[.int .u64 4] 65) ::
  (.cells #[.slice (some ⟨B + 73, 0, none⟩) 2 2, .slice (some ⟨B + 74, 0, none⟩) 2 2, .slice (some ⟨B + 75, 0, none⟩) 1 1, .slice (some ⟨B + 76, 0, none⟩) 2 2, .slice (some ⟨B + 77, 0, none⟩) 1 1, .slice (some ⟨B + 78, 0, none⟩) 1 1, .slice (some ⟨B + 79, 0, none⟩) 1 1, .slice (some ⟨B + 80, 0, none⟩) 1 1, .slice (some ⟨B + 81, 0, none⟩) 1 1, .slice (some ⟨B + 82, 0, none⟩) 1 1, .slice (some ⟨B + 83, 0, none⟩) 1 1, .slice (some ⟨B + 84, 0, none⟩) 1 1] 67) ::
  (.cells #[.int .u64 2] 65) ::
  (.cells #[.int .u64 40627] 65) ::
  (.cells #[.int .u64 998205391] 65) ::
  (.cells #[.int .u64 2] 65) ::
  (.cells #[.int .u64 998205391] 65) ::
  (.cells #[.int .u64 223751503623384853] 65) ::
  (.cells #[.int .u64 2] 65) ::
  (.cells #[.int .u64 223751503623384853] 65) ::
  (.cells #[.int .u64 2404126000720463007, .int .u64 1505752979] 65) ::
  (.cells #[.int .u64 2] 65) ::
  (.cells #[.int .u64 2404126000720463007, .int .u64 1505752979] 65) ::
  (.cells #[.int .u64 4808252001440926015, .int .u64 3011505958] 65) ::
  (.cells #[.int .u64 4] 65) ::
  (.cells #[.slice (some ⟨B + 59, 0, none⟩) 2 2, .slice (some ⟨B + 60, 0, none⟩) 2 2, .slice (some ⟨B + 61, 0, none⟩) 1 1, .slice (some ⟨B + 62, 0, none⟩) 2 2, .slice (some ⟨B + 63, 0, none⟩) 1 1, .slice (some ⟨B + 64, 0, none⟩) 1 1, .slice (some ⟨B + 65, 0, none⟩) 1 1, .slice (some ⟨B + 66, 0, none⟩) 1 1, .slice (some ⟨B + 67, 0, none⟩) 1 1, .slice (some ⟨B + 68, 0, none⟩) 1 1, .slice (some ⟨B + 69, 0, none⟩) 1 1, .slice (some ⟨B + 70, 0, none⟩) 1 1] 67) ::
  (.cells #[.int .u64 2] 65) ::
  (.cells #[.int .u64 61843] 65) ::
  (.cells #[.int .u64 869759953] 65) ::
  (.cells #[.int .u64 2] 65) ::
  (.cells #[.int .u64 869759953] 65) ::
  (.cells #[.int .u64 213235551241998941] 65) ::
  (.cells #[.int .u64 2] 65) ::
  (.cells #[.int .u64 213235551241998941] 65) ::
  (.cells #[.int .u64 15435372851300897329, .int .u64 70] 65) ::
  (.cells #[.int .u64 2] 65) ::
  (.cells #[.int .u64 15435372851300897329, .int .u64 70] 65) ::
  (.cells #[.int .u64 12424001628892243043, .int .u64 141] 65) ::
  (.cells #[.int .u64 4] 65) ::
  (.cells #[.slice (some ⟨B + 45, 0, none⟩) 1 1, .slice (some ⟨B + 46, 0, none⟩) 1 1, .slice (some ⟨B + 47, 0, none⟩) 1 1, .slice (some ⟨B + 48, 0, none⟩) 1 1, .slice (some ⟨B + 49, 0, none⟩) 1 1, .slice (some ⟨B + 50, 0, none⟩) 1 1, .slice (some ⟨B + 51, 0, none⟩) 1 1, .slice (some ⟨B + 52, 0, none⟩) 1 1, .slice (some ⟨B + 53, 0, none⟩) 1 1, .slice (some ⟨B + 54, 0, none⟩) 1 1, .slice (some ⟨B + 55, 0, none⟩) 1 1, .slice (some ⟨B + 56, 0, none⟩) 1 1] 67) ::
  (.cells #[.int .u64 2] 65) ::
  (.cells #[.int .u64 33791] 65) ::
  (.cells #[.int .u64 540926329] 65) ::
  (.cells #[.int .u64 2] 65) ::
  (.cells #[.int .u64 540926329] 65) ::
  (.cells #[.int .u64 245088722592472699] 65) ::
  (.cells #[.int .u64 2] 65) ::
  (.cells #[.int .u64 245088722592472699] 65) ::
  (.cells #[.int .u64 5391951897034399379] 65) ::
  (.cells #[.int .u64 2] 65) ::
  (.cells #[.int .u64 5391951897034399379] 65) ::
  (.cells #[.int .u64 10783903794068798759] 65) ::
  (.cells #[.int .u64 4] 65) ::
  (.cells #[.slice (some ⟨B + 34, 0, none⟩) 1 1, .slice (some ⟨B + 35, 0, none⟩) 1 1, .slice (some ⟨B + 36, 0, none⟩) 1 1, .slice (some ⟨B + 37, 0, none⟩) 1 1, .slice (some ⟨B + 38, 0, none⟩) 1 1, .slice (some ⟨B + 39, 0, none⟩) 1 1, .slice (some ⟨B + 40, 0, none⟩) 1 1, .slice (some ⟨B + 41, 0, none⟩) 1 1, .slice (some ⟨B + 42, 0, none⟩) 1 1] 67) ::
  (.cells #[.int .u64 2] 65) ::
  (.cells #[.int .u64 39181] 65) ::
  (.cells #[.int .u64 962912257] 65) ::
  (.cells #[.int .u64 2] 65) ::
  (.cells #[.int .u64 962912257] 65) ::
  (.cells #[.int .u64 25818620270027393] 65) ::
  (.cells #[.int .u64 2] 65) ::
  (.cells #[.int .u64 25818620270027393] 65) ::
  (.cells #[.int .u64 51637240540054787] 65) ::
  (.cells #[.int .u64 4] 65) ::
  (.cells #[.slice (some ⟨B + 23, 0, none⟩) 1 1, .slice (some ⟨B + 24, 0, none⟩) 1 1, .slice (some ⟨B + 25, 0, none⟩) 1 1, .slice (some ⟨B + 26, 0, none⟩) 1 1, .slice (some ⟨B + 27, 0, none⟩) 1 1, .slice (some ⟨B + 28, 0, none⟩) 1 1, .slice (some ⟨B + 29, 0, none⟩) 1 1, .slice (some ⟨B + 30, 0, none⟩) 1 1, .slice (some ⟨B + 31, 0, none⟩) 1 1] 67) ::
  (.cells #[.int .u64 2] 65) ::
  (.cells #[.int .u64 44879] 65) ::
  (.cells #[.int .u64 589261271] 65) ::
  (.cells #[.int .u64 2] 65) ::
  (.cells #[.int .u64 589261271] 65) ::
  (.cells #[.int .u64 478480152053] 65) ::
  (.cells #[.int .u64 2] 65) ::
  (.cells #[.int .u64 478480152053] 65) ::
  (.cells #[.int .u64 956960304107] 65) ::
  (.cells #[.int .u64 4] 65) ::
  (.cells #[.slice (some ⟨B + 15, 0, none⟩) 1 1, .slice (some ⟨B + 16, 0, none⟩) 1 1, .slice (some ⟨B + 17, 0, none⟩) 1 1, .slice (some ⟨B + 18, 0, none⟩) 1 1, .slice (some ⟨B + 19, 0, none⟩) 1 1, .slice (some ⟨B + 20, 0, none⟩) 1 1] 67) ::
  (.cells #[.int .u64 2] 65) ::
  (.cells #[.int .u64 45949] 65) ::
  (.cells #[.int .u64 447635159] 65) ::
  (.cells #[.int .u64 2] 65) ::
  (.cells #[.int .u64 447635159] 65) ::
  (.cells #[.int .u64 895270319] 65) ::
  (.cells #[.int .u64 4] 65) ::
  (.cells #[.slice (some ⟨B + 7, 0, none⟩) 1 1, .slice (some ⟨B + 8, 0, none⟩) 1 1, .slice (some ⟨B + 9, 0, none⟩) 1 1, .slice (some ⟨B + 10, 0, none⟩) 1 1, .slice (some ⟨B + 11, 0, none⟩) 1 1, .slice (some ⟨B + 12, 0, none⟩) 1 1] 67) ::
  (.cells #[.int .u64 2] 65) ::
  (.cells #[.int .u64 42227] 65) ::
  (.cells #[.int .u64 8192039] 65) ::
  (.cells #[.int .u64 2] 65) ::
  (.cells #[.int .u64 8192039] 65) ::
  (.cells #[.int .u64 16384079] 65) ::
  (.cells #[.int .u64 4] 65) ::
  (.cells #[.slice (some ⟨B + 2, 0, none⟩) 1 1, .slice (some ⟨B + 3, 0, none⟩) 1 1, .slice (some ⟨B + 4, 0, none⟩) 1 1] 67) ::
  (.cells #[.int .u64 2] 65) ::
  (.cells #[.int .u64 50273] 65) ::
  (.cells #[.int .u64 100547] 65) ::
  (.cells #[.int .u64 4] 65) ::
  (.cells #[.slice none 0 0, .slice none 0 0] 55) ::
  []

/-- what was made behind the first block -/
def Later (w w' : World) (b : Nat) : Prop := w.heap.size < b ∧ b < w'.heap.size
theorem known_nat (w : World) {j n : Nat} {ds : List Nat} (hn : n = ds.length) (hj : 0 < j ∧ j < 141) (h : (knownOs w.heap.size)[141 - 1 - j]? = some (.cells (nums .u64 ds).toArray 65)) (hd : ds.all (fun d => decide (d < B64)) = true) (hl4 : ds.length ≤ 100) :
    NatS.rep (Later w (revAllocs w (knownOs w.heap.size))) (revAllocs w (knownOs w.heap.size)) ds [.slice (some ⟨w.heap.size + j, 0, none⟩) n n] := by
  subst hn
  have hr := revAllocs_row w (knownOs w.heap.size) j (show j < (knownOs w.heap.size).length from hj.2) h
  have hl := hr.lt
  have hdig : Pl.Dig B64 ds := fun d hm => by simpa using List.all_eq_true.1 hd d hm
  exact hr.slNum (B := B64) (S := Later w _) ⟨Nat.lt_add_of_pos_right hj.1, hl⟩ hdig ds.length (Nat.le_refl _) (by omega) (by omega)
theorem known_cells (w : World) {j : Nat} {e : TypeId} {cs : List Value} (hj : j < 141) (h : (knownOs w.heap.size)[141 - 1 - j]? = some (.cells cs.toArray e)) : Row (revAllocs w (knownOs w.heap.size)) (w.heap.size + j) e cs :=
  revAllocs_row w (knownOs w.heap.size) j (show j < (knownOs w.heap.size).length from hj) h
theorem chain_row {S : Nat → Prop} {w : World} {g n : Nat} {l : List DStep} {cs : List Value} (h : Row w g 67 cs) (hS : S g) (hl : RepL DStepS S w l cs) (hn : n = l.length) (h64 : l.length ≤ 64) : DStepS.sl.rep S w l [.slice (some ⟨g, 0, none⟩) n n] := by
  subst hn
  exact h.sl hS hl l.length (Nat.le_refl _) (by omega) (by show l.length * (24 + (24 + 24)) ≤ _; omega)

set_option maxRecDepth 100000 in
theorem known_data0 (w : World) : NatS.rep (Later w (revAllocs w (knownOs w.heap.size))) (revAllocs w (knownOs w.heap.size)) [4] [.slice (some ⟨w.heap.size + 1, 0, none⟩) 1 1] ∧ DStepS.sl.rep (Later w (revAllocs w (knownOs w.heap.size))) (revAllocs w (knownOs w.heap.size)) (knownD 0) [.slice (some ⟨w.heap.size + 5, 0, none⟩) 1 1] := by
  refine ⟨(known_nat w (j := 1) (ds := [4]) rfl (by decide) rfl (by decide +kernel) (by decide)), ?_⟩
  have hr := known_cells w (j := 5) (e := 67) (cs := [.slice (some ⟨w.heap.size + 2, 0, none⟩) 1 1, .slice (some ⟨w.heap.size + 3, 0, none⟩) 1 1, .slice (some ⟨w.heap.size + 4, 0, none⟩) 1 1]) (by decide) rfl
  refine chain_row hr ⟨Nat.lt_add_of_pos_right (by decide), hr.lt⟩ ?_ rfl (by decide)
  exact ⟨[_, _, _], _, rfl, ⟨[_], [_, _], rfl, (known_nat w (j := 2) (ds := [100547]) rfl (by decide) rfl (by decide +kernel) (by decide)), [_], [_], rfl, (known_nat w (j := 3) (ds := [50273]) rfl (by decide) rfl (by decide +kernel) (by decide)), (known_nat w (j := 4) (ds := [2]) rfl (by decide) rfl (by decide +kernel) (by decide))⟩, rfl⟩
set_option maxRecDepth 100000 in
theorem known_data1 (w : World) : NatS.rep (Later w (revAllocs w (knownOs w.heap.size))) (revAllocs w (knownOs w.heap.size)) [4] [.slice (some ⟨w.heap.size + 6, 0, none⟩) 1 1] ∧ DStepS.sl.rep (Later w (revAllocs w (knownOs w.heap.size))) (revAllocs w (knownOs w.heap.size)) (knownD 1) [.slice (some ⟨w.heap.size + 13, 0, none⟩) 2 2] := by
  refine ⟨(known_nat w (j := 6) (ds := [4]) rfl (by decide) rfl (by decide +kernel) (by decide)), ?_⟩
  have hr := known_cells w (j := 13) (e := 67) (cs := [.slice (some ⟨w.heap.size + 7, 0, none⟩) 1 1, .slice (some ⟨w.heap.size + 8, 0, none⟩) 1 1, .slice (some ⟨w.heap.size + 9, 0, none⟩) 1 1, .slice (some ⟨w.heap.size + 10, 0, none⟩) 1 1, .slice (some ⟨w.heap.size + 11, 0, none⟩) 1 1, .slice (some ⟨w.heap.size + 12, 0, none⟩) 1 1]) (by decide) rfl
  refine chain_row hr ⟨Nat.lt_add_of_pos_right (by decide), hr.lt⟩ ?_ rfl (by decide)
  exact ⟨[_, _, _], _, rfl, ⟨[_], [_, _], rfl, (known_nat w (j := 7) (ds := [16384079]) rfl (by decide) rfl (by decide +kernel) (by decide)), [_], [_], rfl, (known_nat w (j := 8) (ds := [8192039]) rfl (by decide) rfl (by decide +kernel) (by decide)), (known_nat w (j := 9) (ds := [2]) rfl (by decide) rfl (by decide +kernel) (by decide))⟩, ⟨[_, _, _], _, rfl, ⟨[_], [_, _], rfl, (known_nat w (j := 10) (ds := [8192039]) rfl (by decide) rfl (by decide +kernel) (by decide)), [_], [_], rfl, (known_nat w (j := 11) (ds := [42227]) rfl (by decide) rfl (by decide +kernel) (by decide)), (known_nat w (j := 12) (ds := [2]) rfl (by decide) rfl (by decide +kernel) (by decide))⟩, rfl⟩⟩
set_option maxRecDepth 100000 in
theorem known_data2 (w : World) : NatS.rep (Later w (revAllocs w (knownOs w.heap.size))) (revAllocs w (knownOs w.heap.size)) [4] [.slice (some ⟨w.heap.size + 14, 0, none⟩) 1 1] ∧ DStepS.sl.rep (Later w (revAllocs w (knownOs w.heap.size))) (revAllocs w (knownOs w.heap.size)) (knownD 2) [.slice (some ⟨w.heap.size + 21, 0, none⟩) 2 2] := by
  refine ⟨(known_nat w (j := 14) (ds := [4]) rfl (by decide) rfl (by decide +kernel) (by decide)), ?_⟩
  have hr := known_cells w (j := 21) (e := 67) (cs := [.slice (some ⟨w.heap.size + 15, 0, none⟩) 1 1, .slice (some ⟨w.heap.size + 16, 0, none⟩) 1 1, .slice (some ⟨w.heap.size + 17, 0, none⟩) 1 1, .slice (some ⟨w.heap.size + 18, 0, none⟩) 1 1, .slice (some ⟨w.heap.size + 19, 0, none⟩) 1 1, .slice (some ⟨w.heap.size + 20, 0, none⟩) 1 1]) (by decide) rfl
  refine chain_row hr ⟨Nat.lt_add_of_pos_right (by decide), hr.lt⟩ ?_ rfl (by decide)
  exact ⟨[_, _, _], _, rfl, ⟨[_], [_, _], rfl, (known_nat w (j := 15) (ds := [895270319]) rfl (by decide) rfl (by decide +kernel) (by decide)), [_], [_], rfl, (known_nat w (j := 16) (ds := [447635159]) rfl (by decide) rfl (by decide +kernel) (by decide)), (known_nat w (j := 17) (ds := [2]) rfl (by decide) rfl (by decide +kernel) (by decide))⟩, ⟨[_, _, _], _, rfl, ⟨[_], [_, _], rfl, (known_nat w (j := 18) (ds := [447635159]) rfl (by decide) rfl (by decide +kernel) (by decide)), [_], [_], rfl, (known_nat w (j := 19) (ds := [45949]) rfl (by decide) rfl (by decide +kernel) (by decide)), (known_nat w (j := 20) (ds := [2]) rfl (by decide) rfl (by decide +kernel) (by decide))⟩, rfl⟩⟩
set_option maxRecDepth 100000 in
theorem known_data3 (w : World) : NatS.rep (Later w (revAllocs w (knownOs w.heap.size))) (revAllocs w (knownOs w.heap.size)) [4] [.slice (some ⟨w.heap.size + 22, 0, none⟩) 1 1] ∧ DStepS.sl.rep (Later w (revAllocs w (knownOs w.heap.size))) (revAllocs w (knownOs w.heap.size)) (knownD 3) [.slice (some ⟨w.heap.size + 32, 0, none⟩) 3 3] := by
  refine ⟨(known_nat w (j := 22) (ds := [4]) rfl (by decide) rfl (by decide +kernel) (by decide)), ?_⟩
  have hr := known_cells w (j := 32) (e := 67) (cs := [.slice (some ⟨w.heap.size + 23, 0, none⟩) 1 1, .slice (some ⟨w.heap.size + 24, 0, none⟩) 1 1, .slice (some ⟨w.heap.size + 25, 0, none⟩) 1 1, .slice (some ⟨w.heap.size + 26, 0, none⟩) 1 1, .slice (some ⟨w.heap.size + 27, 0, none⟩) 1 1, .slice (some ⟨w.heap.size + 28, 0, none⟩) 1 1, .slice (some ⟨w.heap.size + 29, 0, none⟩) 1 1, .slice (some ⟨w.heap.size + 30, 0, none⟩) 1 1, .slice (some ⟨w.heap.size + 31, 0, none⟩) 1 1]) (by decide) rfl
  refine chain_row hr ⟨Nat.lt_add_of_pos_right (by decide), hr.lt⟩ ?_ rfl (by decide)
  exact ⟨[_, _, _], _, rfl, ⟨[_], [_, _], rfl, (known_nat w (j := 23) (ds := [956960304107]) rfl (by decide) rfl (by decide +kernel) (by decide)), [_], [_], rfl, (known_nat w (j := 24) (ds := [478480152053]) rfl (by decide) rfl (by decide +kernel) (by decide)), (known_nat w (j := 25) (ds := [2]) rfl (by decide) rfl (by decide +kernel) (by decide))⟩, ⟨[_, _, _], _, rfl, ⟨[_], [_, _], rfl, (known_nat w (j := 26) (ds := [478480152053]) rfl (by decide) rfl (by decide +kernel) (by decide)), [_], [_], rfl, (known_nat w (j := 27) (ds := [589261271]) rfl (by decide) rfl (by decide +kernel) (by decide)), (known_nat w (j := 28) (ds := [2]) rfl (by decide) rfl (by decide +kernel) (by decide))⟩, ⟨[_, _, _], _, rfl, ⟨[_], [_, _], rfl, (known_nat w (j := 29) (ds := [589261271]) rfl (by decide) rfl (by decide +kernel) (by decide)), [_], [_], rfl, (known_nat w (j := 30) (ds := [44879]) rfl (by decide) rfl (by decide +kernel) (by decide)), (known_nat w (j := 31) (ds := [2]) rfl (by decide) rfl (by decide +kernel) (by decide))⟩, rfl⟩⟩⟩
set_option maxRecDepth 100000 in
theorem known_data4 (w : World) : NatS.rep (Later w (revAllocs w (knownOs w.heap.size))) (revAllocs w (knownOs w.heap.size)) [4] [.slice (some ⟨w.heap.size + 33, 0, none⟩) 1 1] ∧ DStepS.sl.rep (Later w (revAllocs w (knownOs w.heap.size))) (revAllocs w (knownOs w.heap.size)) (knownD 4) [.slice (some ⟨w.heap.size + 43, 0, none⟩) 3 3] := by
  refine ⟨(known_nat w (j := 33) (ds := [4]) rfl (by decide) rfl (by decide +kernel) (by decide)), ?_⟩
  have hr := known_cells w (j := 43) (e := 67) (cs := [.slice (some ⟨w.heap.size + 34, 0, none⟩) 1 1, .slice (some ⟨w.heap.size + 35, 0, none⟩) 1 1, .slice (some ⟨w.heap.size + 36, 0, none⟩) 1 1, .slice (some ⟨w.heap.size + 37, 0, none⟩) 1 1, .slice (some ⟨w.heap.size + 38, 0, none⟩) 1 1, .slice (some ⟨w.heap.size + 39, 0, none⟩) 1 1, .slice (some ⟨w.heap.size + 40, 0, none⟩) 1 1, .slice (some ⟨w.heap.size + 41, 0, none⟩) 1 1, .slice (some ⟨w.heap.size + 42, 0, none⟩) 1 1]) (by decide) rfl
  refine chain_row hr ⟨Nat.lt_add_of_pos_right (by decide), hr.lt⟩ ?_ rfl (by decide)
  exact ⟨[_, _, _], _, rfl, ⟨[_], [_, _], rfl, (known_nat w (j := 34) (ds := [51637240540054787]) rfl (by decide) rfl (by decide +kernel) (by decide)), [_], [_], rfl, (known_nat w (j := 35) (ds := [25818620270027393]) rfl (by decide) rfl (by decide +kernel) (by decide)), (known_nat w (j := 36) (ds := [2]) rfl (by decide) rfl (by decide +kernel) (by decide))⟩, ⟨[_, _, _], _, rfl, ⟨[_], [_, _], rfl, (known_nat w (j := 37) (ds := [25818620270027393]) rfl (by decide) rfl (by decide +kernel) (by decide)), [_], [_], rfl, (known_nat w (j := 38) (ds := [962912257]) rfl (by decide) rfl (by decide +kernel) (by decide)), (known_nat w (j := 39) (ds := [2]) rfl (by decide) rfl (by decide +kernel) (by decide))⟩, ⟨[_, _, _], _, rfl, ⟨[_], [_, _], rfl, (known_nat w (j := 40) (ds := [962912257]) rfl (by decide) rfl (by decide +kernel) (by decide)), [_], [_], rfl, (known_nat w (j := 41) (ds := [39181]) rfl (by decide) rfl (by decide +kernel) (by decide)), (known_nat w (j := 42) (ds := [2]) rfl (by decide) rfl (by decide +kernel) (by decide))⟩, rfl⟩⟩⟩
set_option maxRecDepth 100000 in
theorem known_data5 (w : World) : NatS.rep (Later w (revAllocs w (knownOs w.heap.size))) (revAllocs w (knownOs w.heap.size)) [4] [.slice (some ⟨w.heap.size + 44, 0, none⟩) 1 1] ∧ DStepS.sl.rep (Later w (revAllocs w (knownOs w.heap.size))) (revAllocs w (knownOs w.heap.size)) (knownD 5) [.slice (some ⟨w.heap.size + 57, 0, none⟩) 4 4] := by
  refine ⟨(known_nat w (j := 44) (ds := [4]) rfl (by decide) rfl (by decide +kernel) (by decide)), ?_⟩
  have hr := known_cells w (j := 57) (e := 67) (cs := [.slice (some ⟨w.heap.size + 45, 0, none⟩) 1 1, .slice (some ⟨w.heap.size + 46, 0, none⟩) 1 1, .slice (some ⟨w.heap.size + 47, 0, none⟩) 1 1, .slice (some ⟨w.heap.size + 48, 0, none⟩) 1 1, .slice (some ⟨w.heap.size + 49, 0, none⟩) 1 1, .slice (some ⟨w.heap.size + 50, 0, none⟩) 1 1, .slice (some ⟨w.heap.size + 51, 0, none⟩) 1 1, .slice (some ⟨w.heap.size + 52, 0, none⟩) 1 1, .slice (some ⟨w.heap.size + 53, 0, none⟩) 1 1, .slice (some ⟨w.heap.size + 54, 0, none⟩) 1 1, .slice (some ⟨w.heap.size + 55, 0, none⟩) 1 1, .slice (some ⟨w.heap.size + 56, 0, none⟩) 1 1]) (by decide) rfl
  refine chain_row hr ⟨Nat.lt_add_of_pos_right (by decide), hr.lt⟩ ?_ rfl (by decide)
  exact ⟨[_, _, _], _, rfl, ⟨[_], [_, _], rfl, (known_nat w (j := 45) (ds := [10783903794068798759]) rfl (by decide) rfl (by decide +kernel) (by decide)), [_], [_], rfl, (known_nat w (j := 46) (ds := [5391951897034399379]) rfl (by decide) rfl (by decide +kernel) (by decide)), (known_nat w (j := 47) (ds := [2]) rfl (by decide) rfl (by decide +kernel) (by decide))⟩, ⟨[_, _, _], _, rfl, ⟨[_], [_, _], rfl, (known_nat w (j := 48) (ds := [5391951897034399379]) rfl (by decide) rfl (by decide +kernel) (by decide)), [_], [_], rfl, (known_nat w (j := 49) (ds := [245088722592472699]) rfl (by decide) rfl (by decide +kernel) (by decide)), (known_nat w (j := 50) (ds := [2]) rfl (by decide) rfl (by decide +kernel) (by decide))⟩, ⟨[_, _, _], _, rfl, ⟨[_], [_, _], rfl, (known_nat w (j := 51) (ds := [245088722592472699]) rfl (by decide) rfl (by decide +kernel) (by decide)), [_], [_], rfl, (known_nat w (j := 52) (ds := [540926329]) rfl (by decide) rfl (by decide +kernel) (by decide)), (known_nat w (j := 53) (ds := [2]) rfl (by decide) rfl (by decide +kernel) (by decide))⟩, ⟨[_, _, _], _, rfl, ⟨[_], [_, _], rfl, (known_nat w (j := 54) (ds := [540926329]) rfl (by decide) rfl (by decide +kernel) (by decide)), [_], [_], rfl, (known_nat w (j := 55) (ds := [33791]) rfl (by decide) rfl (by decide +kernel) (by decide)), (known_nat w (j := 56) (ds := [2]) rfl (by decide) rfl (by decide +kernel) (by decide))⟩, rfl⟩⟩⟩⟩
set_option maxRecDepth 100000 in
theorem known_data6 (w : World) : NatS.rep (Later w (revAllocs w (knownOs w.heap.size))) (revAllocs w (knownOs w.heap.size)) [4] [.slice (some ⟨w.heap.size + 58, 0, none⟩) 1 1] ∧ DStepS.sl.rep (Later w (revAllocs w (knownOs w.heap.size))) (revAllocs w (knownOs w.heap.size)) (knownD 6) [.slice (some ⟨w.heap.size + 71, 0, none⟩) 4 4] := by
  refine ⟨(known_nat w (j := 58) (ds := [4]) rfl (by decide) rfl (by decide +kernel) (by decide)), ?_⟩
  have hr := known_cells w (j := 71) (e := 67) (cs := [.slice (some ⟨w.heap.size + 59, 0, none⟩) 2 2, .slice (some ⟨w.heap.size + 60, 0, none⟩) 2 2, .slice (some ⟨w.heap.size + 61, 0, none⟩) 1 1, .slice (some ⟨w.heap.size + 62, 0, none⟩) 2 2, .slice (some ⟨w.heap.size + 63, 0, none⟩) 1 1, .slice (some ⟨w.heap.size + 64, 0, none⟩) 1 1, .slice (some ⟨w.heap.size + 65, 0, none⟩) 1 1, .slice (some ⟨w.heap.size + 66, 0, none⟩) 1 1, .slice (some ⟨w.heap.size + 67, 0, none⟩) 1 1, .slice (some ⟨w.heap.size + 68, 0, none⟩) 1 1, .slice (some ⟨w.heap.size + 69, 0, none⟩) 1 1, .slice (some ⟨w.heap.size + 70, 0, none⟩) 1 1]) (by decide) rfl
  refine chain_row hr ⟨Nat.lt_add_of_pos_right (by decide), hr.lt⟩ ?_ rfl (by decide)
  exact ⟨[_, _, _], _, rfl, ⟨[_], [_, _], rfl, (known_nat w (j := 59) (ds := [12424001628892243043, 141]) rfl (by decide) rfl (by decide +kernel) (by decide)), [_], [_], rfl, (known_nat w (j := 60) (ds := [15435372851300897329, 70]) rfl (by decide) rfl (by decide +kernel) (by decide)), (known_nat w (j := 61) (ds := [2]) rfl (by decide) rfl (by decide +kernel) (by decide))⟩, ⟨[_, _, _], _, rfl, ⟨[_], [_, _], rfl, (known_nat w (j := 62) (ds := [15435372851300897329, 70]) rfl (by decide) rfl (by decide +kernel) (by decide)), [_], [_], rfl, (known_nat w (j := 63) (ds := [213235551241998941]) rfl (by decide) rfl (by decide +kernel) (by decide)), (known_nat w (j := 64) (ds := [2]) rfl (by decide) rfl (by decide +kernel) (by decide))⟩, ⟨[_, _, _], _, rfl, ⟨[_], [_, _], rfl, (known_nat w (j := 65) (ds := [213235551241998941]) rfl (by decide) rfl (by decide +kernel) (by decide)), [_], [_], rfl, (known_nat w (j := 66) (ds := [869759953]) rfl (by decide) rfl (by decide +kernel) (by decide)), (known_nat w (j := 67) (ds := [2]) rfl (by decide) rfl (by decide +kernel) (by decide))⟩, ⟨[_, _, _], _, rfl, ⟨[_], [_, _], rfl, (known_nat w (j := 68) (ds := [869759953]) rfl (by decide) rfl (by decide +kernel) (by decide)), [_], [_], rfl, (known_nat w (j := 69) (ds := [61843]) rfl (by decide) rfl (by decide +kernel) (by decide)), (known_nat w (j := 70) (ds := [2]) rfl (by decide) rfl (by decide +kernel) (by decide))⟩, rfl⟩⟩⟩⟩
set_option maxRecDepth 100000 in
theorem known_data7 (w : World) : NatS.rep (Later w (revAllocs w (knownOs w.heap.size))) (revAllocs w (knownOs w.heap.size)) [4] [.slice (some ⟨w.heap.size + 72, 0, none⟩) 1 1] ∧ DStepS.sl.rep (Later w (revAllocs w (knownOs w.heap.size))) (revAllocs w (knownOs w.heap.size)) (knownD 7) [.slice (some ⟨w.heap.size + 85, 0, none⟩) 4 4] := by
  refine ⟨(known_nat w (j := 72) (ds := [4]) rfl (by decide) rfl (by decide +kernel) (by decide)), ?_⟩
  have hr := known_cells w (j := 85) (e := 67) (cs := [.slice (some ⟨w.heap.size + 73, 0, none⟩) 2 2, .slice (some ⟨w.heap.size + 74, 0, none⟩) 2 2, .slice (some ⟨w.heap.size + 75, 0, none⟩) 1 1, .slice (some ⟨w.heap.size + 76, 0, none⟩) 2 2, .slice (some ⟨w.heap.size + 77, 0, none⟩) 1 1, .slice (some ⟨w.heap.size + 78, 0, none⟩) 1 1, .slice (some ⟨w.heap.size + 79, 0, none⟩) 1 1, .slice (some ⟨w.heap.size + 80, 0, none⟩) 1 1, .slice (some ⟨w.heap.size + 81, 0, none⟩) 1 1, .slice (some ⟨w.heap.size + 82, 0, none⟩) 1 1, .slice (some ⟨w.heap.size + 83, 0, none⟩) 1 1, .slice (some ⟨w.heap.size + 84, 0, none⟩) 1 1]) (by decide) rfl
  refine chain_row hr ⟨Nat.lt_add_of_pos_right (by decide), hr.lt⟩ ?_ rfl (by decide)
  exact ⟨[_, _, _], _, rfl, ⟨[_], [_, _], rfl, (known_nat w (j := 73) (ds := [4808252001440926015, 3011505958]) rfl (by decide) rfl (by decide +kernel) (by decide)), [_], [_], rfl, (known_nat w (j := 74) (ds := [2404126000720463007, 1505752979]) rfl (by decide) rfl (by decide +kernel) (by decide)), (known_nat w (j := 75) (ds := [2]) rfl (by decide) rfl (by decide +kernel) (by decide))⟩, ⟨[_, _, _], _, rfl, ⟨[_], [_, _], rfl, (known_nat w (j := 76) (ds := [2404126000720463007, 1505752979]) rfl (by decide) rfl (by decide +kernel) (by decide)), [_], [_], rfl, (known_nat w (j := 77) (ds := [223751503623384853]) rfl (by decide) rfl (by decide +kernel) (by decide)), (known_nat w (j := 78) (ds := [2]) rfl (by decide) rfl (by decide +kernel) (by decide))⟩, ⟨[_, _, _], _, rfl, ⟨[_], [_, _], rfl, (known_nat w (j := 79) (ds := [223751503623384853]) rfl (by decide) rfl (by decide +kernel) (by decide)), [_], [_], rfl, (known_nat w (j := 80) (ds := [998205391]) rfl (by decide) rfl (by decide +kernel) (by decide)), (known_nat w (j := 81) (ds := [2]) rfl (by decide) rfl (by decide +kernel) (by decide))⟩, ⟨[_, _, _], _, rfl, ⟨[_], [_, _], rfl, (known_nat w (j := 82) (ds := [998205391]) rfl (by decide) rfl (by decide +kernel) (by decide)), [_], [_], rfl, (known_nat w (j := 83) (ds := [40627]) rfl (by decide) rfl (by decide +kernel) (by decide)), (known_nat w (j := 84) (ds := [2]) rfl (by decide) rfl (by decide +kernel) (by decide))⟩, rfl⟩⟩⟩⟩
set_option maxRecDepth 100000 in
theorem known_data8 (w : World) : NatS.rep (Later w (revAllocs w (knownOs w.heap.size))) (revAllocs w (knownOs w.heap.size)) [4] [.slice (some ⟨w.heap.size + 86, 0, none⟩) 1 1] ∧ DStepS.sl.rep (Later w (revAllocs w (knownOs w.heap.size))) (revAllocs w (knownOs w.heap.size)) (knownD 8) [.slice (some ⟨w.heap.size + 102, 0, none⟩) 5 5] := by
  refine ⟨(known_nat w (j := 86) (ds := [4]) rfl (by decide) rfl (by decide +kernel) (by decide)), ?_⟩
  have hr := known_cells w (j := 102) (e := 67) (cs := [.slice (some ⟨w.heap.size + 87, 0, none⟩) 2 2, .slice (some ⟨w.heap.size + 88, 0, none⟩) 2 2, .slice (some ⟨w.heap.size + 89, 0, none⟩) 1 1, .slice (some ⟨w.heap.size + 90, 0, none⟩) 2 2, .slice (some ⟨w.heap.size + 91, 0, none⟩) 2 2, .slice (some ⟨w.heap.size + 92, 0, none⟩) 1 1, .slice (some ⟨w.heap.size + 93, 0, none⟩) 2 2, .slice (some ⟨w.heap.size + 94, 0, none⟩) 1 1, .slice (some ⟨w.heap.size + 95, 0, none⟩) 1 1, .slice (some ⟨w.heap.size + 96, 0, none⟩) 1 1, .slice (some ⟨w.heap.size + 97, 0, none⟩) 1 1, .slice (some ⟨w.heap.size + 98, 0, none⟩) 1 1, .slice (some ⟨w.heap.size + 99, 0, none⟩) 1 1, .slice (some ⟨w.heap.size + 100, 0, none⟩) 1 1, .slice (some ⟨w.heap.size + 101, 0, none⟩) 1 1]) (by decide) rfl
  refine chain_row hr ⟨Nat.lt_add_of_pos_right (by decide), hr.lt⟩ ?_ rfl (by decide)
  exact ⟨[_, _, _], _, rfl, ⟨[_], [_, _], rfl, (known_nat w (j := 87) (ds := [2134952957892123371, 15956530409638412463]) rfl (by decide) rfl (by decide +kernel) (by decide)), [_], [_], rfl, (known_nat w (j := 88) (ds := [10290848515800837493, 7978265204819206231]) rfl (by decide) rfl (by decide +kernel) (by decide)), (known_nat w (j := 89) (ds := [2]) rfl (by decide) rfl (by decide +kernel) (by decide))⟩, ⟨[_, _, _], _, rfl, ⟨[_], [_, _], rfl, (known_nat w (j := 90) (ds := [10290848515800837493, 7978265204819206231]) rfl (by decide) rfl (by decide +kernel) (by decide)), [_], [_], rfl, (known_nat w (j := 91) (ds := [11996286182992634747, 863074989703505]) rfl (by decide) rfl (by decide +kernel) (by decide)), (known_nat w (j := 92) (ds := [2]) rfl (by decide) rfl (by decide +kernel) (by decide))⟩, ⟨[_, _, _], _, rfl, ⟨[_], [_, _], rfl, (known_nat w (j := 93) (ds := [11996286182992634747, 863074989703505]) rfl (by decide) rfl (by decide +kernel) (by decide)), [_], [_], rfl, (known_nat w (j := 94) (ds := [193128230530517629]) rfl (by decide) rfl (by decide +kernel) (by decide)), (known_nat w (j := 95) (ds := [2]) rfl (by decide) rfl (by decide +kernel) (by decide))⟩, ⟨[_, _, _], _, rfl, ⟨[_], [_, _], rfl, (known_nat w (j := 96) (ds := [193128230530517629]) rfl (by decide) rfl (by decide +kernel) (by decide)), [_], [_], rfl, (known_nat w (j := 97) (ds := [588713921]) rfl (by decide) rfl (by decide +kernel) (by decide)), (known_nat w (j := 98) (ds := [2]) rfl (by decide) rfl (by decide +kernel) (by decide))⟩, ⟨[_, _, _], _, rfl, ⟨[_], [_, _], rfl, (known_nat w (j := 99) (ds := [588713921]) rfl (by decide) rfl (by decide +kernel) (by decide)), [_], [_], rfl, (known_nat w (j := 100) (ds := [63439]) rfl (by decide) rfl (by decide +kernel) (by decide)), (known_nat w (j := 101) (ds := [2]) rfl (by decide) rfl (by decide +kernel) (by decide))⟩, rfl⟩⟩⟩⟩⟩
set_option maxRecDepth 100000 in
theorem known_data9 (w : World) : NatS.rep (Later w (revAllocs w (knownOs w.heap.size))) (revAllocs w (knownOs w.heap.size)) [4] [.slice (some ⟨w.heap.size + 103, 0, none⟩) 1 1] ∧ DStepS.sl.rep (Later w (revAllocs w (knownOs w.heap.size))) (revAllocs w (knownOs w.heap.size)) (knownD 9) [.slice (some ⟨w.heap.size + 119, 0, none⟩) 5 5] := by
  refine ⟨(known_nat w (j := 103) (ds := [4]) rfl (by decide) rfl (by decide +kernel) (by decide)), ?_⟩
  have hr := known_cells w (j := 119) (e := 67) (cs := [.slice (some ⟨w.heap.size + 104, 0, none⟩) 3 3, .slice (some ⟨w.heap.size + 105, 0, none⟩) 3 3, .slice (some ⟨w.heap.size + 106, 0, none⟩) 1 1, .slice (some ⟨w.heap.size + 107, 0, none⟩) 3 3, .slice (some ⟨w.heap.size + 108, 0, none⟩) 2 2, .slice (some ⟨w.heap.size + 109, 0, none⟩) 1 1, .slice (some ⟨w.heap.size + 110, 0, none⟩) 2 2, .slice (some ⟨w.heap.size + 111, 0, none⟩) 1 1, .slice (some ⟨w.heap.size + 112, 0, none⟩) 1 1, .slice (some ⟨w.heap.size + 113, 0, none⟩) 1 1, .slice (some ⟨w.heap.size + 114, 0, none⟩) 1 1, .slice (some ⟨w.heap.size + 115, 0, none⟩) 1 1, .slice (some ⟨w.heap.size + 116, 0, none⟩) 1 1, .slice (some ⟨w.heap.size + 117, 0, none⟩) 1 1, .slice (some ⟨w.heap.size + 118, 0, none⟩) 1 1]) (by decide) rfl
  refine chain_row hr ⟨Nat.lt_add_of_pos_right (by decide), hr.lt⟩ ?_ rfl (by decide)
  exact ⟨[_, _, _], _, rfl, ⟨[_], [_, _], rfl, (known_nat w (j := 104) (ds := [9215473365567259271, 4605804108090883984, 15540118379551537448]) rfl (by decide) rfl (by decide +kernel) (by decide)), [_], [_], rfl, (known_nat w (j := 105) (ds := [4607736682783629635, 2302902054045441992, 7770059189775768724]) rfl (by decide) rfl (by decide +kernel) (by decide)), (known_nat w (j := 106) (ds := [2]) rfl (by decide) rfl (by decide +kernel) (by decide))⟩, ⟨[_, _, _], _, rfl, ⟨[_], [_, _], rfl, (known_nat w (j := 107) (ds := [4607736682783629635, 2302902054045441992, 7770059189775768724]) rfl (by decide) rfl (by decide +kernel) (by decide)), [_], [_], rfl, (known_nat w (j := 108) (ds := [7859188658856360755, 945900106163132]) rfl (by decide) rfl (by decide +kernel) (by decide)), (known_nat w (j := 109) (ds := [2]) rfl (by decide) rfl (by decide +kernel) (by decide))⟩, ⟨[_, _, _], _, rfl, ⟨[_], [_, _], rfl, (known_nat w (j := 110) (ds := [7859188658856360755, 945900106163132]) rfl (by decide) rfl (by decide +kernel) (by decide)), [_], [_], rfl, (known_nat w (j := 111) (ds := [230885128227773927]) rfl (by decide) rfl (by decide +kernel) (by decide)), (known_nat w (j := 112) (ds := [2]) rfl (by decide) rfl (by decide +kernel) (by decide))⟩, ⟨[_, _, _], _, rfl, ⟨[_], [_, _], rfl, (known_nat w (j := 113) (ds := [230885128227773927]) rfl (by decide) rfl (by decide +kernel) (by decide)), [_], [_], rfl, (known_nat w (j := 114) (ds := [725375153]) rfl (by decide) rfl (by decide +kernel) (by decide)), (known_nat w (j := 115) (ds := [2]) rfl (by decide) rfl (by decide +kernel) (by decide))⟩, ⟨[_, _, _], _, rfl, ⟨[_], [_, _], rfl, (known_nat w (j := 116) (ds := [725375153]) rfl (by decide) rfl (by decide +kernel) (by decide)), [_], [_], rfl, (known_nat w (j := 117) (ds := [34847]) rfl (by decide) rfl (by decide +kernel) (by decide)), (known_nat w (j := 118) (ds := [2]) rfl (by decide) rfl (by decide +kernel) (by decide))⟩, rfl⟩⟩⟩⟩⟩
set_option maxRecDepth 100000 in
theorem known_data10 (w : World) : NatS.rep (Later w (revAllocs w (knownOs w.heap.size))) (revAllocs w (knownOs w.heap.size)) [4] [.slice (some ⟨w.heap.size + 120, 0, none⟩) 1 1] ∧ DStepS.sl.rep (Later w (revAllocs w (knownOs w.heap.size))) (revAllocs w (knownOs w.heap.size)) (knownD 10) [.slice (some ⟨w.heap.size + 139, 0, none⟩) 6 6] := by
  refine ⟨(known_nat w (j := 120) (ds := [4]) rfl (by decide) rfl (by decide +kernel) (by decide)), ?_⟩
  have hr := known_cells w (j := 139) (e := 67) (cs := [.slice (some ⟨w.heap.size + 121, 0, none⟩) 4 4, .slice (some ⟨w.heap.size + 122, 0, none⟩) 4 4, .slice (some ⟨w.heap.size + 123, 0, none⟩) 1 1, .slice (some ⟨w.heap.size + 124, 0, none⟩) 4 4, .slice (some ⟨w.heap.size + 125, 0, none⟩) 4 4, .slice (some ⟨w.heap.size + 126, 0, none⟩) 1 1, .slice (some ⟨w.heap.size + 127, 0, none⟩) 4 4, .slice (some ⟨w.heap.size + 128, 0, none⟩) 2 2, .slice (some ⟨w.heap.size + 129, 0, none⟩) 1 1, .slice (some ⟨w.heap.size + 130, 0, none⟩) 2 2, .slice (some ⟨w.heap.size + 131, 0, none⟩) 1 1, .slice (some ⟨w.heap.size + 132, 0, none⟩) 1 1, .slice (some ⟨w.heap.size + 133, 0, none⟩) 1 1, .slice (some ⟨w.heap.size + 134, 0, none⟩) 1 1, .slice (some ⟨w.heap.size + 135, 0, none⟩) 1 1, .slice (some ⟨w.heap.size + 136, 0, none⟩) 1 1, .slice (some ⟨w.heap.size + 137, 0, none⟩) 1 1, .slice (some ⟨w.heap.size + 138, 0, none⟩) 1 1]) (by decide) rfl
  refine chain_row hr ⟨Nat.lt_add_of_pos_right (by decide), hr.lt⟩ ?_ rfl (by decide)
  exact ⟨[_, _, _], _, rfl, ⟨[_], [_, _], rfl, (known_nat w (j := 121) (ds := [10799784259066542827, 9606633416393899386, 8878368538482454987, 15746236207369801358]) rfl (by decide) rfl (by decide +kernel) (by decide)), [_], [_], rfl, (known_nat w (j := 122) (ds := [5399892129533271413, 14026688745051725501, 4439184269241227493, 7873118103684900679]) rfl (by decide) rfl (by decide +kernel) (by decide)), (known_nat w (j := 123) (ds := [2]) rfl (by decide) rfl (by decide +kernel) (by decide))⟩, ⟨[_, _, _], _, rfl, ⟨[_], [_, _], rfl, (known_nat w (j := 124) (ds := [5399892129533271413, 14026688745051725501, 4439184269241227493, 7873118103684900679]) rfl (by decide) rfl (by decide +kernel) (by decide)), [_], [_], rfl, (known_nat w (j := 125) (ds := [2128832344054565539, 5188484454565121284, 11588479929783459793, 11392430636]) rfl (by decide) rfl (by decide +kernel) (by decide)), (known_nat w (j := 126) (ds := [2]) rfl (by decide) rfl (by decide +kernel) (by decide))⟩, ⟨[_, _, _], _, rfl, ⟨[_], [_, _], rfl, (known_nat w (j := 127) (ds := [2128832344054565539, 5188484454565121284, 11588479929783459793, 11392430636]) rfl (by decide) rfl (by decide +kernel) (by decide)), [_], [_], rfl, (known_nat w (j := 128) (ds := [7363949757740889991, 947980809119916]) rfl (by decide) rfl (by decide +kernel) (by decide)), (known_nat w (j := 129) (ds := [2]) rfl (by decide) rfl (by decide +kernel) (by decide))⟩, ⟨[_, _, _], _, rfl, ⟨[_], [_, _], rfl, (known_nat w (j := 130) (ds := [7363949757740889991, 947980809119916]) rfl (by decide) rfl (by decide +kernel) (by decide)), [_], [_], rfl, (known_nat w (j := 131) (ds := [238236089707193629]) rfl (by decide) rfl (by decide +kernel) (by decide)), (known_nat w (j := 132) (ds := [2]) rfl (by decide) rfl (by decide +kernel) (by decide))⟩, ⟨[_, _, _], _, rfl, ⟨[_], [_, _], rfl, (known_nat w (j := 133) (ds := [238236089707193629]) rfl (by decide) rfl (by decide +kernel) (by decide)), [_], [_], rfl, (known_nat w (j := 134) (ds := [902893669]) rfl (by decide) rfl (by decide +kernel) (by decide)), (known_nat w (j := 135) (ds := [2]) rfl (by decide) rfl (by decide +kernel) (by decide))⟩, ⟨[_, _, _], _, rfl, ⟨[_], [_, _], rfl, (known_nat w (j := 136) (ds := [902893669]) rfl (by decide) rfl (by decide +kernel) (by decide)), [_], [_], rfl, (known_nat w (j := 137) (ds := [36901]) rfl (by decide) rfl (by decide +kernel) (by decide)), (known_nat w (j := 138) (ds := [2]) rfl (by decide) rfl (by decide +kernel) (by decide))⟩, rfl⟩⟩⟩⟩⟩⟩
theorem known_last (w : World) : Row (revAllocs w (knownOs w.heap.size)) (w.heap.size + 140) 55 [.slice (some ⟨w.heap.size + 1, 0, none⟩) 1 1, .slice (some ⟨w.heap.size + 5, 0, none⟩) 1 1, .slice (some ⟨w.heap.size + 6, 0, none⟩) 1 1, .slice (some ⟨w.heap.size + 13, 0, none⟩) 2 2, .slice (some ⟨w.heap.size + 14, 0, none⟩) 1 1, .slice (some ⟨w.heap.size + 21, 0, none⟩) 2 2, .slice (some ⟨w.heap.size + 22, 0, none⟩) 1 1, .slice (some ⟨w.heap.size + 32, 0, none⟩) 3 3, .slice (some ⟨w.heap.size + 33, 0, none⟩) 1 1, .slice (some ⟨w.heap.size + 43, 0, none⟩) 3 3, .slice (some ⟨w.heap.size + 44, 0, none⟩) 1 1, .slice (some ⟨w.heap.size + 57, 0, none⟩) 4 4, .slice (some ⟨w.heap.size + 58, 0, none⟩) 1 1, .slice (some ⟨w.heap.size + 71, 0, none⟩) 4 4, .slice (some ⟨w.heap.size + 72, 0, none⟩) 1 1, .slice (some ⟨w.heap.size + 85, 0, none⟩) 4 4, .slice (some ⟨w.heap.size + 86, 0, none⟩) 1 1, .slice (some ⟨w.heap.size + 102, 0, none⟩) 5 5, .slice (some ⟨w.heap.size + 103, 0, none⟩) 1 1, .slice (some ⟨w.heap.size + 119, 0, none⟩) 5 5, .slice (some ⟨w.heap.size + 120, 0, none⟩) 1 1, .slice (some ⟨w.heap.size + 139, 0, none⟩) 6 6] := known_cells w (by decide) rfl
theorem known_first (w : World) : Row (revAllocs w (knownOs w.heap.size)) (w.heap.size + 0) 55 [.slice none 0 0, .slice none 0 0] := known_cells w (by decide) rfl
/-- the k-th one's cells, and what they say -/
theorem known_data (w : World) : ∀ k, k < 11 → ∃ vg vc, (revAllocs w (knownOs w.heap.size)).cell? ⟨w.heap.size + 140, k * 2, none⟩ = some vg ∧ (revAllocs w (knownOs w.heap.size)).cell? ⟨w.heap.size + 140, k * 2 + 1, none⟩ = some vc ∧
    NatS.rep (Later w (revAllocs w (knownOs w.heap.size))) (revAllocs w (knownOs w.heap.size)) [4] [vg] ∧ DStepS.sl.rep (Later w (revAllocs w (knownOs w.heap.size))) (revAllocs w (knownOs w.heap.size)) (knownD k) [vc]
  | 0, _ => ⟨_, _, (known_last w).cell 0 (by simp), (known_last w).cell 1 (by simp), (known_data0 w).1, (known_data0 w).2⟩
  | 1, _ => ⟨_, _, (known_last w).cell 2 (by simp), (known_last w).cell 3 (by simp), (known_data1 w).1, (known_data1 w).2⟩
  | 2, _ => ⟨_, _, (known_last w).cell 4 (by simp), (known_last w).cell 5 (by simp), (known_data2 w).1, (known_data2 w).2⟩
  | 3, _ => ⟨_, _, (known_last w).cell 6 (by simp), (known_last w).cell 7 (by simp), (known_data3 w).1, (known_data3 w).2⟩
  | 4, _ => ⟨_, _, (known_last w).cell 8 (by simp), (known_last w).cell 9 (by simp), (known_data4 w).1, (known_data4 w).2⟩
  | 5, _ => ⟨_, _, (known_last w).cell 10 (by simp), (known_last w).cell 11 (by simp), (known_data5 w).1, (known_data5 w).2⟩
  | 6, _ => ⟨_, _, (known_last w).cell 12 (by simp), (known_last w).cell 13 (by simp), (known_data6 w).1, (known_data6 w).2⟩
  | 7, _ => ⟨_, _, (known_last w).cell 14 (by simp), (known_last w).cell 15 (by simp), (known_data7 w).1, (known_data7 w).2⟩
  | 8, _ => ⟨_, _, (known_last w).cell 16 (by simp), (known_last w).cell 17 (by simp), (known_data8 w).1, (known_data8 w).2⟩
  | 9, _ => ⟨_, _, (known_last w).cell 18 (by simp), (known_last w).cell 19 (by simp), (known_data9 w).1, (known_data9 w).2⟩
  | 10, _ => ⟨_, _, (known_last w).cell 20 (by simp), (known_last w).cell 21 (by simp), (known_data10 w).1, (known_data10 w).2⟩
  | k + 11, h => absurd h (by omega)

end Go.Proofs.Ytphbacggmhjmgaa

/- The groups that are known, told: one law a step. (Printed by gen_known2.py.) -/
namespace Go.Proofs.Ytphbacggmhjmgaa
open Go.RowKit

section
variable {ops : Array Oper} {rest : List Oper} {l : List Value} {Q : Exit → Act → World → Prop} {w w0 : World} {d : Tmp} {ty : TypeId} {pos : String} {af : Array Edge} {os : List Obj} {B j j' : Nat}
theorem load_group {W : World} {b : Nat} {v0 v1 : Value} (k0 : W.cell? ⟨b, 0, none⟩ = some v0) (k1 : W.cell? ⟨b, 1, none⟩ = some v1) : (loadVar 55 ⟨b, 0, none⟩).run Try.prog W = .ok (.agg #[v0, v1]) W := by
  simp [loadVar, go_sem, k0, k1, Result.andThen]
theorem ret_group {fn : Func} {p : Tmp} (h : fn.results = #[.cell p 55]) (tmps : Array Value) {W : World} {b : Nat} {v0 v1 : Value} (hp : tmps.getD p undef = .pointer (some ⟨b, 0, none⟩)) (k0 : W.cell? ⟨b, 0, none⟩ = some v0) (k1 : W.cell? ⟨b, 1, none⟩ = some v1) :
    (results fn tmps).run Try.prog W = .ok (.agg #[v0, v1]) W := by
  have hp' : tmps[p]?.getD undef = .pointer (some ⟨b, 0, none⟩) := by rw [← hp]; simp
  simp only [results, h]
  simp [hp', asAddr, load_group k0 k1]
theorem put_list (l : List Value) (d : Tmp) (v : Value) : (⟨l.toArray, []⟩ : Act).put (some d) v = ⟨(l.set d v).toArray, []⟩ := by simp [Act.put]
theorem get_list {l : List Value} {t : Nat} {v : Value} (h : l[t]?.getD undef = v) : (⟨l.toArray, []⟩ : Act).tmps[t]?.getD undef = v := by simpa using h
theorem L_flat {l l' : List Value} (h : l = l') (k : wpList Try.prog ops Q rest ⟨l'.toArray, []⟩ w) : wpList Try.prog ops Q rest ⟨l.toArray, []⟩ w := by subst h; exact k
theorem L_build {op : Op} {v : Value} (hrun : ∀ K : Act → World → Prop, ∀ W : World, K (Act.put ⟨l.toArray, []⟩ (some d) v) W → Oper.wp Try.prog ⟨some d, op, ty, pos, af, none⟩ ⟨l.toArray, []⟩ W K Q)
    (h : wpList Try.prog ops Q rest ⟨(l.set d v).toArray, []⟩ w) : wpList Try.prog ops Q (⟨some d, op, ty, pos, af, none⟩ :: rest) ⟨l.toArray, []⟩ w := by
  rw [← put_list] at h
  exact wpList_plain rfl fun K hK => hrun K w (hK _ _ h)
theorem L_step {t0 t1 t2 : Tmp} {A0 A1 A2 : Option Addr} {n0 n1 n2 c0 c1 c2 : Nat} (e0 : l[t0]?.getD undef = .slice A0 n0 c0) (e1 : l[t1]?.getD undef = .slice A1 n1 c1) (e2 : l[t2]?.getD undef = .slice A2 n2 c2)
    (h : wpList Try.prog ops Q rest ⟨(l.set d (.agg #[.slice A0 n0 c0, .slice A1 n1 c1, .slice A2 n2 c2])).toArray, []⟩ w) : wpList Try.prog ops Q (⟨some d, .build 67 #[(0, .tmp t0), (1, .tmp t1), (2, .tmp t2)], ty, pos, af, none⟩ :: rest) ⟨l.toArray, []⟩ w := by
  refine L_build (fun K W hK => ?_) h
  unfold Oper.wp execOp
  go_simp
  simpa [Act.put] using hK
theorem L_grp {t0 t1 : Tmp} {A0 A1 : Option Addr} {n0 n1 c0 c1 : Nat} (e0 : l[t0]?.getD undef = .slice A0 n0 c0) (e1 : l[t1]?.getD undef = .slice A1 n1 c1)
    (h : wpList Try.prog ops Q rest ⟨(l.set d (.agg #[.slice A0 n0 c0, .slice A1 n1 c1])).toArray, []⟩ w) : wpList Try.prog ops Q (⟨some d, .build 55 #[(0, .tmp t0), (1, .tmp t1)], ty, pos, af, none⟩ :: rest) ⟨l.toArray, []⟩ w := by
  refine L_build (fun K W hK => ?_) h
  unfold Oper.wp execOp
  go_simp
  simpa [Act.put] using hK
theorem L_nat1 (x0 : Int) (hw : Hid (w = revAllocs w0 os)) (hs : Hid (w.heap.size = B + j)) (hj : j + 1 = j')
    (h : ∀ W', Hid (W' = revAllocs w0 (.cells #[.int .u64 x0] 65 :: os)) → Hid (W'.heap.size = B + j') → wpList Try.prog ops Q rest ⟨(l.set d (.slice (some ⟨B + j, 0, none⟩) 1 1)).toArray, []⟩ W') :
    wpList Try.prog ops Q (⟨some d, .buildSlice 24 1 #[(0, .const (.int .u64 x0))], ty, pos, af, none⟩ :: rest) ⟨l.toArray, []⟩ w :=
  lit_nat1 x0 hw hs hj fun W' h1 h2 => by rw [put_list]; exact h W' h1 h2
theorem L_nat2 (x0 x1 : Int) (hw : Hid (w = revAllocs w0 os)) (hs : Hid (w.heap.size = B + j)) (hj : j + 1 = j')
    (h : ∀ W', Hid (W' = revAllocs w0 (.cells #[.int .u64 x0, .int .u64 x1] 65 :: os)) → Hid (W'.heap.size = B + j') → wpList Try.prog ops Q rest ⟨(l.set d (.slice (some ⟨B + j, 0, none⟩) 2 2)).toArray, []⟩ W') :
    wpList Try.prog ops Q (⟨some d, .buildSlice 24 2 #[(0, .const (.int .u64 x0)), (1, .const (.int .u64 x1))], ty, pos, af, none⟩ :: rest) ⟨l.toArray, []⟩ w :=
  lit_nat2 x0 x1 hw hs hj fun W' h1 h2 => by rw [put_list]; exact h W' h1 h2
theorem L_nat3 (x0 x1 x2 : Int) (hw : Hid (w = revAllocs w0 os)) (hs : Hid (w.heap.size = B + j)) (hj : j + 1 = j')
    (h : ∀ W', Hid (W' = revAllocs w0 (.cells #[.int .u64 x0, .int .u64 x1, .int .u64 x2] 65 :: os)) → Hid (W'.heap.size = B + j') → wpList Try.prog ops Q rest ⟨(l.set d (.slice (some ⟨B + j, 0, none⟩) 3 3)).toArray, []⟩ W') :
    wpList Try.prog ops Q (⟨some d, .buildSlice 24 3 #[(0, .const (.int .u64 x0)), (1, .const (.int .u64 x1)), (2, .const (.int .u64 x2))], ty, pos, af, none⟩ :: rest) ⟨l.toArray, []⟩ w :=
  lit_nat3 x0 x1 x2 hw hs hj fun W' h1 h2 => by rw [put_list]; exact h W' h1 h2
theorem L_nat4 (x0 x1 x2 x3 : Int) (hw : Hid (w = revAllocs w0 os)) (hs : Hid (w.heap.size = B + j)) (hj : j + 1 = j')
    (h : ∀ W', Hid (W' = revAllocs w0 (.cells #[.int .u64 x0, .int .u64 x1, .int .u64 x2, .int .u64 x3] 65 :: os)) → Hid (W'.heap.size = B + j') → wpList Try.prog ops Q rest ⟨(l.set d (.slice (some ⟨B + j, 0, none⟩) 4 4)).toArray, []⟩ W') :
    wpList Try.prog ops Q (⟨some d, .buildSlice 24 4 #[(0, .const (.int .u64 x0)), (1, .const (.int .u64 x1)), (2, .const (.int .u64 x2)), (3, .const (.int .u64 x3))], ty, pos, af, none⟩ :: rest) ⟨l.toArray, []⟩ w :=
  lit_nat4 x0 x1 x2 x3 hw hs hj fun W' h1 h2 => by rw [put_list]; exact h W' h1 h2
theorem L_chain1 {p0 q0 a0 : Value} {t0 : Tmp} (e0 : l[t0]?.getD undef = .agg #[p0, q0, a0]) (hw : Hid (w = revAllocs w0 os)) (hs : Hid (w.heap.size = B + j)) (hj : j + 1 = j')
    (h : ∀ W', Hid (W' = revAllocs w0 (.cells #[p0, q0, a0] 67 :: os)) → Hid (W'.heap.size = B + j') → wpList Try.prog ops Q rest ⟨(l.set d (.slice (some ⟨B + j, 0, none⟩) 1 1)).toArray, []⟩ W') :
    wpList Try.prog ops Q (⟨some d, .buildSlice 53 1 #[(0, .tmp t0)], ty, pos, af, none⟩ :: rest) ⟨l.toArray, []⟩ w :=
  lit_chain1 (get_list e0) hw hs hj fun W' h1 h2 => by rw [put_list]; exact h W' h1 h2
theorem L_chain2 {p0 q0 a0 p1 q1 a1 : Value} {t0 t1 : Tmp} (e0 : l[t0]?.getD undef = .agg #[p0, q0, a0]) (e1 : l[t1]?.getD undef = .agg #[p1, q1, a1]) (hw : Hid (w = revAllocs w0 os)) (hs : Hid (w.heap.size = B + j)) (hj : j + 1 = j')
    (h : ∀ W', Hid (W' = revAllocs w0 (.cells #[p0, q0, a0, p1, q1, a1] 67 :: os)) → Hid (W'.heap.size = B + j') → wpList Try.prog ops Q rest ⟨(l.set d (.slice (some ⟨B + j, 0, none⟩) 2 2)).toArray, []⟩ W') :
    wpList Try.prog ops Q (⟨some d, .buildSlice 53 2 #[(0, .tmp t0), (1, .tmp t1)], ty, pos, af, none⟩ :: rest) ⟨l.toArray, []⟩ w :=
  lit_chain2 (get_list e0) (get_list e1) hw hs hj fun W' h1 h2 => by rw [put_list]; exact h W' h1 h2
theorem L_chain3 {p0 q0 a0 p1 q1 a1 p2 q2 a2 : Value} {t0 t1 t2 : Tmp} (e0 : l[t0]?.getD undef = .agg #[p0, q0, a0]) (e1 : l[t1]?.getD undef = .agg #[p1, q1, a1]) (e2 : l[t2]?.getD undef = .agg #[p2, q2, a2]) (hw : Hid (w = revAllocs w0 os)) (hs : Hid (w.heap.size = B + j)) (hj : j + 1 = j')
    (h : ∀ W', Hid (W' = revAllocs w0 (.cells #[p0, q0, a0, p1, q1, a1, p2, q2, a2] 67 :: os)) → Hid (W'.heap.size = B + j') → wpList Try.prog ops Q rest ⟨(l.set d (.slice (some ⟨B + j, 0, none⟩) 3 3)).toArray, []⟩ W') :
    wpList Try.prog ops Q (⟨some d, .buildSlice 53 3 #[(0, .tmp t0), (1, .tmp t1), (2, .tmp t2)], ty, pos, af, none⟩ :: rest) ⟨l.toArray, []⟩ w :=
  lit_chain3 (get_list e0) (get_list e1) (get_list e2) hw hs hj fun W' h1 h2 => by rw [put_list]; exact h W' h1 h2
theorem L_chain4 {p0 q0 a0 p1 q1 a1 p2 q2 a2 p3 q3 a3 : Value} {t0 t1 t2 t3 : Tmp} (e0 : l[t0]?.getD undef = .agg #[p0, q0, a0]) (e1 : l[t1]?.getD undef = .agg #[p1, q1, a1]) (e2 : l[t2]?.getD undef = .agg #[p2, q2, a2]) (e3 : l[t3]?.getD undef = .agg #[p3, q3, a3]) (hw : Hid (w = revAllocs w0 os)) (hs : Hid (w.heap.size = B + j)) (hj : j + 1 = j')
    (h : ∀ W', Hid (W' = revAllocs w0 (.cells #[p0, q0, a0, p1, q1, a1, p2, q2, a2, p3, q3, a3] 67 :: os)) → Hid (W'.heap.size = B + j') → wpList Try.prog ops Q rest ⟨(l.set d (.slice (some ⟨B + j, 0, none⟩) 4 4)).toArray, []⟩ W') :
    wpList Try.prog ops Q (⟨some d, .buildSlice 53 4 #[(0, .tmp t0), (1, .tmp t1), (2, .tmp t2), (3, .tmp t3)], ty, pos, af, none⟩ :: rest) ⟨l.toArray, []⟩ w :=
  lit_chain4 (get_list e0) (get_list e1) (get_list e2) (get_list e3) hw hs hj fun W' h1 h2 => by rw [put_list]; exact h W' h1 h2
theorem L_chain5 {p0 q0 a0 p1 q1 a1 p2 q2 a2 p3 q3 a3 p4 q4 a4 : Value} {t0 t1 t2 t3 t4 : Tmp} (e0 : l[t0]?.getD undef = .agg #[p0, q0, a0]) (e1 : l[t1]?.getD undef = .agg #[p1, q1, a1]) (e2 : l[t2]?.getD undef = .agg #[p2, q2, a2]) (e3 : l[t3]?.getD undef = .agg #[p3, q3, a3]) (e4 : l[t4]?.getD undef = .agg #[p4, q4, a4]) (hw : Hid (w = revAllocs w0 os)) (hs : Hid (w.heap.size = B + j)) (hj : j + 1 = j')
    (h : ∀ W', Hid (W' = revAllocs w0 (.cells #[p0, q0, a0, p1, q1, a1, p2, q2, a2, p3, q3, a3, p4, q4, a4] 67 :: os)) → Hid (W'.heap.size = B + j') → wpList Try.prog ops Q rest ⟨(l.set d (.slice (some ⟨B + j, 0, none⟩) 5 5)).toArray, []⟩ W') :
    wpList Try.prog ops Q (⟨some d, .buildSlice 53 5 #[(0, .tmp t0), (1, .tmp t1), (2, .tmp t2), (3, .tmp t3), (4, .tmp t4)], ty, pos, af, none⟩ :: rest) ⟨l.toArray, []⟩ w :=
  lit_chain5 (get_list e0) (get_list e1) (get_list e2) (get_list e3) (get_list e4) hw hs hj fun W' h1 h2 => by rw [put_list]; exact h W' h1 h2
theorem L_chain6 {p0 q0 a0 p1 q1 a1 p2 q2 a2 p3 q3 a3 p4 q4 a4 p5 q5 a5 : Value} {t0 t1 t2 t3 t4 t5 : Tmp} (e0 : l[t0]?.getD undef = .agg #[p0, q0, a0]) (e1 : l[t1]?.getD undef = .agg #[p1, q1, a1]) (e2 : l[t2]?.getD undef = .agg #[p2, q2, a2]) (e3 : l[t3]?.getD undef = .agg #[p3, q3, a3]) (e4 : l[t4]?.getD undef = .agg #[p4, q4, a4]) (e5 : l[t5]?.getD undef = .agg #[p5, q5, a5]) (hw : Hid (w = revAllocs w0 os)) (hs : Hid (w.heap.size = B + j)) (hj : j + 1 = j')
    (h : ∀ W', Hid (W' = revAllocs w0 (.cells #[p0, q0, a0, p1, q1, a1, p2, q2, a2, p3, q3, a3, p4, q4, a4, p5, q5, a5] 67 :: os)) → Hid (W'.heap.size = B + j') → wpList Try.prog ops Q rest ⟨(l.set d (.slice (some ⟨B + j, 0, none⟩) 6 6)).toArray, []⟩ W') :
    wpList Try.prog ops Q (⟨some d, .buildSlice 53 6 #[(0, .tmp t0), (1, .tmp t1), (2, .tmp t2), (3, .tmp t3), (4, .tmp t4), (5, .tmp t5)], ty, pos, af, none⟩ :: rest) ⟨l.toArray, []⟩ w :=
  lit_chain6 (get_list e0) (get_list e1) (get_list e2) (get_list e3) (get_list e4) (get_list e5) hw hs hj fun W' h1 h2 => by rw [put_list]; exact h W' h1 h2
theorem L_all {g0 c0 g1 c1 g2 c2 g3 c3 g4 c4 g5 c5 g6 c6 g7 c7 g8 c8 g9 c9 g10 c10 : Value} {t0 t1 t2 t3 t4 t5 t6 t7 t8 t9 t10 : Tmp} (e0 : l[t0]?.getD undef = .agg #[g0, c0]) (e1 : l[t1]?.getD undef = .agg #[g1, c1]) (e2 : l[t2]?.getD undef = .agg #[g2, c2]) (e3 : l[t3]?.getD undef = .agg #[g3, c3]) (e4 : l[t4]?.getD undef = .agg #[g4, c4]) (e5 : l[t5]?.getD undef = .agg #[g5, c5]) (e6 : l[t6]?.getD undef = .agg #[g6, c6]) (e7 : l[t7]?.getD undef = .agg #[g7, c7]) (e8 : l[t8]?.getD undef = .agg #[g8, c8]) (e9 : l[t9]?.getD undef = .agg #[g9, c9]) (e10 : l[t10]?.getD undef = .agg #[g10, c10]) (hw : Hid (w = revAllocs w0 os)) (hs : Hid (w.heap.size = B + j)) (hj : j + 1 = j')
    (h : ∀ W', Hid (W' = revAllocs w0 (.cells #[g0, c0, g1, c1, g2, c2, g3, c3, g4, c4, g5, c5, g6, c6, g7, c7, g8, c8, g9, c9, g10, c10] 55 :: os)) → Hid (W'.heap.size = B + j') → wpList Try.prog ops Q rest ⟨(l.set d (.slice (some ⟨B + j, 0, none⟩) 11 11)).toArray, []⟩ W') :
    wpList Try.prog ops Q (⟨some d, .buildSlice 91 11 #[(0, .tmp t0), (1, .tmp t1), (2, .tmp t2), (3, .tmp t3), (4, .tmp t4), (5, .tmp t5), (6, .tmp t6), (7, .tmp t7), (8, .tmp t8), (9, .tmp t9), (10, .tmp t10)], ty, pos, af, none⟩ :: rest) ⟨l.toArray, []⟩ w :=
  lit_all (get_list e0) (get_list e1) (get_list e2) (get_list e3) (get_list e4) (get_list e5) (get_list e6) (get_list e7) (get_list e8) (get_list e9) (get_list e10) hw hs hj fun W' h1 h2 => by rw [put_list]; exact h W' h1 h2
theorem L_alloc (h : wpList Try.prog ops Q rest ⟨(l.set d (.pointer (some ⟨w.heap.size, 0, none⟩))).toArray, []⟩ (w.alloc (.cells #[.slice none 0 0, .slice none 0 0] 55))) :
    wpList Try.prog ops Q (⟨some d, .alloc 55, ty, pos, af, none⟩ :: rest) ⟨l.toArray, []⟩ w := by
  rw [← put_list] at h
  refine wpList_plain rfl fun K hK => ?_
  replace hK := hK _ _ h
  clear h
  unfold Oper.wp execOp
  go_simp
  simpa [Act.put] using hK
end

/-- which one is told at a place -/
def knownI (i : Int) : Nat := (if i < 0 then -(i + 1) else i).toNat % 11

end Go.Proofs.Ytphbacggmhjmgaa

/- The groups that are known, told: the walk. (Printed by gen_known2.py.) -/
namespace Go.Proofs.Ytphbacggmhjmgaa
open Go.RowKit

def F0 (i : Int) (B : Nat) : List Value := [.int .i64 i, undef, .pointer (some ⟨B, 0, none⟩), undef, .slice (some ⟨B + 1, 0, none⟩) 1 1, .slice (some ⟨B + 2, 0, none⟩) 1 1, .slice (some ⟨B + 3, 0, none⟩) 1 1, .slice (some ⟨B + 4, 0, none⟩) 1 1, .agg #[.slice (some ⟨B + 2, 0, none⟩) 1 1, .slice (some ⟨B + 3, 0, none⟩) 1 1, .slice (some ⟨B + 4, 0, none⟩) 1 1], .slice (some ⟨B + 5, 0, none⟩) 1 1, .agg #[.slice (some ⟨B + 1, 0, none⟩) 1 1, .slice (some ⟨B + 5, 0, none⟩) 1 1], undef, undef, undef, undef, undef, undef, undef, undef, undef, undef, undef, undef, undef, undef, undef, undef, undef, undef, undef, undef, undef, undef, undef, undef, undef, undef, undef, undef, undef, undef, undef, undef, undef, undef, undef, undef, undef, undef, undef, undef, undef, undef, undef, undef, undef, undef, undef, undef, undef, undef, undef, undef, undef, undef, undef, undef, undef, undef, undef, undef, undef, undef, undef, undef, undef, undef, undef, undef, undef, undef, undef, undef, undef, undef, undef, undef, undef, undef, undef, undef, undef, undef, undef, undef, undef, undef, undef, undef, undef, undef, undef, undef, undef, undef, undef, undef, undef, undef, undef, undef, undef, undef, undef, undef, undef, undef, undef, undef, undef, undef, undef, undef, undef, undef, undef, undef, undef, undef, undef, undef, undef, undef, undef, undef, undef, undef, undef, undef, undef, undef, undef, undef, undef, undef, undef, undef, undef, undef, undef, undef, undef, undef, undef, undef, undef, undef, undef, undef, undef, undef, undef, undef, undef, undef, undef, undef, undef, undef, undef, undef, undef, undef, undef, undef, undef, undef, undef, undef, undef, undef, undef, undef, undef, undef, undef, undef, undef, undef, undef, undef, undef, undef, undef, undef, undef, undef, undef, undef, undef, undef, undef, undef, undef, undef, undef]
def F1 (i : Int) (B : Nat) : List Value := [.int .i64 i, undef, .pointer (some ⟨B, 0, none⟩), undef, .slice (some ⟨B + 1, 0, none⟩) 1 1, .slice (some ⟨B + 2, 0, none⟩) 1 1, .slice (some ⟨B + 3, 0, none⟩) 1 1, .slice (some ⟨B + 4, 0, none⟩) 1 1, .agg #[.slice (some ⟨B + 2, 0, none⟩) 1 1, .slice (some ⟨B + 3, 0, none⟩) 1 1, .slice (some ⟨B + 4, 0, none⟩) 1 1], .slice (some ⟨B + 5, 0, none⟩) 1 1, .agg #[.slice (some ⟨B + 1, 0, none⟩) 1 1, .slice (some ⟨B + 5, 0, none⟩) 1 1], .slice (some ⟨B + 6, 0, none⟩) 1 1, .slice (some ⟨B + 7, 0, none⟩) 1 1, .slice (some ⟨B + 8, 0, none⟩) 1 1, .slice (some ⟨B + 9, 0, none⟩) 1 1, .agg #[.slice (some ⟨B + 7, 0, none⟩) 1 1, .slice (some ⟨B + 8, 0, none⟩) 1 1, .slice (some ⟨B + 9, 0, none⟩) 1 1], .slice (some ⟨B + 10, 0, none⟩) 1 1, .slice (some ⟨B + 11, 0, none⟩) 1 1, .slice (some ⟨B + 12, 0, none⟩) 1 1, .agg #[.slice (some ⟨B + 10, 0, none⟩) 1 1, .slice (some ⟨B + 11, 0, none⟩) 1 1, .slice (some ⟨B + 12, 0, none⟩) 1 1], .slice (some ⟨B + 13, 0, none⟩) 2 2, .agg #[.slice (some ⟨B + 6, 0, none⟩) 1 1, .slice (some ⟨B + 13, 0, none⟩) 2 2], undef, undef, undef, undef, undef, undef, undef, undef, undef, undef, undef, undef, undef, undef, undef, undef, undef, undef, undef, undef, undef, undef, undef, undef, undef, undef, undef, undef, undef, undef, undef, undef, undef, undef, undef, undef, undef, undef, undef, undef, undef, undef, undef, undef, undef, undef, undef, undef, undef, undef, undef, undef, undef, undef, undef, undef, undef, undef, undef, undef, undef, undef, undef, undef, undef, undef, undef, undef, undef, undef, undef, undef, undef, undef, undef, undef, undef, undef, undef, undef, undef, undef, undef, undef, undef, undef, undef, undef, undef, undef, undef, undef, undef, undef, undef, undef, undef, undef, undef, undef, undef, undef, undef, undef, undef, undef, undef, undef, undef, undef, undef, undef, undef, undef, undef, undef, undef, undef, undef, undef, undef, undef, undef, undef, undef, undef, undef, undef, undef, undef, undef, undef, undef, undef, undef, undef, undef, undef, undef, undef, undef, undef, undef, undef, undef, undef, undef, undef, undef, undef, undef, undef, undef, undef, undef, undef, undef, undef, undef, undef, undef, undef, undef, undef, undef, undef, undef, undef, undef, undef, undef, undef, undef, undef, undef, undef, undef, undef, undef, undef, undef, undef, undef, undef]
def F2 (i : Int) (B : Nat) : List Value := [.int .i64 i, undef, .pointer (some ⟨B, 0, none⟩), undef, .slice (some ⟨B + 1, 0, none⟩) 1 1, .slice (some ⟨B + 2, 0, none⟩) 1 1, .slice (some ⟨B + 3, 0, none⟩) 1 1, .slice (some ⟨B + 4, 0, none⟩) 1 1, .agg #[.slice (some ⟨B + 2, 0, none⟩) 1 1, .slice (some ⟨B + 3, 0, none⟩) 1 1, .slice (some ⟨B + 4, 0, none⟩) 1 1], .slice (some ⟨B + 5, 0, none⟩) 1 1, .agg #[.slice (some ⟨B + 1, 0, none⟩) 1 1, .slice (some ⟨B + 5, 0, none⟩) 1 1], .slice (some ⟨B + 6, 0, none⟩) 1 1, .slice (some ⟨B + 7, 0, none⟩) 1 1, .slice (some ⟨B + 8, 0, none⟩) 1 1, .slice (some ⟨B + 9, 0, none⟩) 1 1, .agg #[.slice (some ⟨B + 7, 0, none⟩) 1 1, .slice (some ⟨B + 8, 0, none⟩) 1 1, .slice (some ⟨B + 9, 0, none⟩) 1 1], .slice (some ⟨B + 10, 0, none⟩) 1 1, .slice (some ⟨B + 11, 0, none⟩) 1 1, .slice (some ⟨B + 12, 0, none⟩) 1 1, .agg #[.slice (some ⟨B + 10, 0, none⟩) 1 1, .slice (some ⟨B + 11, 0, none⟩) 1 1, .slice (some ⟨B + 12, 0, none⟩) 1 1], .slice (some ⟨B + 13, 0, none⟩) 2 2, .agg #[.slice (some ⟨B + 6, 0, none⟩) 1 1, .slice (some ⟨B + 13, 0, none⟩) 2 2], .slice (some ⟨B + 14, 0, none⟩) 1 1, .slice (some ⟨B + 15, 0, none⟩) 1 1, .slice (some ⟨B + 16, 0, none⟩) 1 1, .slice (some ⟨B + 17, 0, none⟩) 1 1, .agg #[.slice (some ⟨B + 15, 0, none⟩) 1 1, .slice (some ⟨B + 16, 0, none⟩) 1 1, .slice (some ⟨B + 17, 0, none⟩) 1 1], .slice (some ⟨B + 18, 0, none⟩) 1 1, .slice (some ⟨B + 19, 0, none⟩) 1 1, .slice (some ⟨B + 20, 0, none⟩) 1 1, .agg #[.slice (some ⟨B + 18, 0, none⟩) 1 1, .slice (some ⟨B + 19, 0, none⟩) 1 1, .slice (some ⟨B + 20, 0, none⟩) 1 1], .slice (some ⟨B + 21, 0, none⟩) 2 2, .agg #[.slice (some ⟨B + 14, 0, none⟩) 1 1, .slice (some ⟨B + 21, 0, none⟩) 2 2], undef, undef, undef, undef, undef, undef, undef, undef, undef, undef, undef, undef, undef, undef, undef, undef, undef, undef, undef, undef, undef, undef, undef, undef, undef, undef, undef, undef, undef, undef, undef, undef, undef, undef, undef, undef, undef, undef, undef, undef, undef, undef, undef, undef, undef, undef, undef, undef, undef, undef, undef, undef, undef, undef, undef, undef, undef, undef, undef, undef, undef, undef, undef, undef, undef, undef, undef, undef, undef, undef, undef, undef, undef, undef, undef, undef, undef, undef, undef, undef, undef, undef, undef, undef, undef, undef, undef, undef, undef, undef, undef, undef, undef, undef, undef, undef, undef, undef, undef, undef, undef, undef, undef, undef, undef, undef, undef, undef, undef, undef, undef, undef, undef, undef, undef, undef, undef, undef, undef, undef, undef, undef, undef, undef, undef, undef, undef, undef, undef, undef, undef, undef, undef, undef, undef, undef, undef, undef, undef, undef, undef, undef, undef, undef, undef, undef, undef, undef, undef, undef, undef, undef, undef, undef, undef, undef, undef, undef, undef, undef, undef, undef, undef, undef, undef, undef, undef, undef, undef, undef, undef, undef, undef]
def F3 (i : Int) (B : Nat) : List Value := [.int .i64 i, undef, .pointer (some ⟨B, 0, none⟩), undef, .slice (some ⟨B + 1, 0, none⟩) 1 1, .slice (some ⟨B + 2, 0, none⟩) 1 1, .slice (some ⟨B + 3, 0, none⟩) 1 1, .slice (some ⟨B + 4, 0, none⟩) 1 1, .agg #[.slice (some ⟨B + 2, 0, none⟩) 1 1, .slice (some ⟨B + 3, 0, none⟩) 1 1, .slice (some ⟨B + 4, 0, none⟩) 1 1], .slice (some ⟨B + 5, 0, none⟩) 1 1, .agg #[.slice (some ⟨B + 1, 0, none⟩) 1 1, .slice (some ⟨B + 5, 0, none⟩) 1 1], .slice (some ⟨B + 6, 0, none⟩) 1 1, .slice (some ⟨B + 7, 0, none⟩) 1 1, .slice (some ⟨B + 8, 0, none⟩) 1 1, .slice (some ⟨B + 9, 0, none⟩) 1 1, .agg #[.slice (some ⟨B + 7, 0, none⟩) 1 1, .slice (some ⟨B + 8, 0, none⟩) 1 1, .slice (some ⟨B + 9, 0, none⟩) 1 1], .slice (some ⟨B + 10, 0, none⟩) 1 1, .slice (some ⟨B + 11, 0, none⟩) 1 1, .slice (some ⟨B + 12, 0, none⟩) 1 1, .agg #[.slice (some ⟨B + 10, 0, none⟩) 1 1, .slice (some ⟨B + 11, 0, none⟩) 1 1, .slice (some ⟨B + 12, 0, none⟩) 1 1], .slice (some ⟨B + 13, 0, none⟩) 2 2, .agg #[.slice (some ⟨B + 6, 0, none⟩) 1 1, .slice (some ⟨B + 13, 0, none⟩) 2 2], .slice (some ⟨B + 14, 0, none⟩) 1 1, .slice (some ⟨B + 15, 0, none⟩) 1 1, .slice (some ⟨B + 16, 0, none⟩) 1 1, .slice (some ⟨B + 17, 0, none⟩) 1 1, .agg #[.slice (some ⟨B + 15, 0, none⟩) 1 1, .slice (some ⟨B + 16, 0, none⟩) 1 1, .slice (some ⟨B + 17, 0, none⟩) 1 1], .slice (some ⟨B + 18, 0, none⟩) 1 1, .slice (some ⟨B + 19, 0, none⟩) 1 1, .slice (some ⟨B + 20, 0, none⟩) 1 1, .agg #[.slice (some ⟨B + 18, 0, none⟩) 1 1, .slice (some ⟨B + 19, 0, none⟩) 1 1, .slice (some ⟨B + 20, 0, none⟩) 1 1], .slice (some ⟨B + 21, 0, none⟩) 2 2, .agg #[.slice (some ⟨B + 14, 0, none⟩) 1 1, .slice (some ⟨B + 21, 0, none⟩) 2 2], .slice (some ⟨B + 22, 0, none⟩) 1 1, .slice (some ⟨B + 23, 0, none⟩) 1 1, .slice (some ⟨B + 24, 0, none⟩) 1 1, .slice (some ⟨B + 25, 0, none⟩) 1 1, .agg #[.slice (some ⟨B + 23, 0, none⟩) 1 1, .slice (some ⟨B + 24, 0, none⟩) 1 1, .slice (some ⟨B + 25, 0, none⟩) 1 1], .slice (some ⟨B + 26, 0, none⟩) 1 1, .slice (some ⟨B + 27, 0, none⟩) 1 1, .slice (some ⟨B + 28, 0, none⟩) 1 1, .agg #[.slice (some ⟨B + 26, 0, none⟩) 1 1, .slice (some ⟨B + 27, 0, none⟩) 1 1, .slice (some ⟨B + 28, 0, none⟩) 1 1], .slice (some ⟨B + 29, 0, none⟩) 1 1, .slice (some ⟨B + 30, 0, none⟩) 1 1, .slice (some ⟨B + 31, 0, none⟩) 1 1, .agg #[.slice (some ⟨B + 29, 0, none⟩) 1 1, .slice (some ⟨B + 30, 0, none⟩) 1 1, .slice (some ⟨B + 31, 0, none⟩) 1 1], .slice (some ⟨B + 32, 0, none⟩) 3 3, .agg #[.slice (some ⟨B + 22, 0, none⟩) 1 1, .slice (some ⟨B + 32, 0, none⟩) 3 3], undef, undef, undef, undef, undef, undef, undef, undef, undef, undef, undef, undef, undef, undef, undef, undef, undef, undef, undef, undef, undef, undef, undef, undef, undef, undef, undef, undef, undef, undef, undef, undef, undef, undef, undef, undef, undef, undef, undef, undef, undef, undef, undef, undef, undef, undef, undef, undef, undef, undef, undef, undef, undef, undef, undef, undef, undef, undef, undef, undef, undef, undef, undef, undef, undef, undef, undef, undef, undef, undef, undef, undef, undef, undef, undef, undef, undef, undef, undef, undef, undef, undef, undef, undef, undef, undef, undef, undef, undef, undef, undef, undef, undef, undef, undef, undef, undef, undef, undef, undef, undef, undef, undef, undef, undef, undef, undef, undef, undef, undef, undef, undef, undef, undef, undef, undef, undef, undef, undef, undef, undef, undef, undef, undef, undef, undef, undef, undef, undef, undef, undef, undef, undef, undef, undef, undef, undef, undef, undef, undef, undef, undef, undef, undef, undef, undef, undef, undef, undef, undef, undef, undef, undef, undef, undef, undef, undef, undef]
def F4 (i : Int) (B : Nat) : List Value := [.int .i64 i, undef, .pointer (some ⟨B, 0, none⟩), undef, .slice (some ⟨B + 1, 0, none⟩) 1 1, .slice (some ⟨B + 2, 0, none⟩) 1 1, .slice (some ⟨B + 3, 0, none⟩) 1 1, .slice (some ⟨B + 4, 0, none⟩) 1 1, .agg #[.slice (some ⟨B + 2, 0, none⟩) 1 1, .slice (some ⟨B + 3, 0, none⟩) 1 1, .slice (some ⟨B + 4, 0, none⟩) 1 1], .slice (some ⟨B + 5, 0, none⟩) 1 1, .agg #[.slice (some ⟨B + 1, 0, none⟩) 1 1, .slice (some ⟨B + 5, 0, none⟩) 1 1], .slice (some ⟨B + 6, 0, none⟩) 1 1, .slice (some ⟨B + 7, 0, none⟩) 1 1, .slice (some ⟨B + 8, 0, none⟩) 1 1, .slice (some ⟨B + 9, 0, none⟩) 1 1, .agg #[.slice (some ⟨B + 7, 0, none⟩) 1 1, .slice (some ⟨B + 8, 0, none⟩) 1 1, .slice (some ⟨B + 9, 0, none⟩) 1 1], .slice (some ⟨B + 10, 0, none⟩) 1 1, .slice (some ⟨B + 11, 0, none⟩) 1 1, .slice (some ⟨B + 12, 0, none⟩) 1 1, .agg #[.slice (some ⟨B + 10, 0, none⟩) 1 1, .slice (some ⟨B + 11, 0, none⟩) 1 1, .slice (some ⟨B + 12, 0, none⟩) 1 1], .slice (some ⟨B + 13, 0, none⟩) 2 2, .agg #[.slice (some ⟨B + 6, 0, none⟩) 1 1, .slice (some ⟨B + 13, 0, none⟩) 2 2], .slice (some ⟨B + 14, 0, none⟩) 1 1, .slice (some ⟨B + 15, 0, none⟩) 1 1, .slice (some ⟨B + 16, 0, none⟩) 1 1, .slice (some ⟨B + 17, 0, none⟩) 1 1, .agg #[.slice (some ⟨B + 15, 0, none⟩) 1 1, .slice (some ⟨B + 16, 0, none⟩) 1 1, .slice (some ⟨B + 17, 0, none⟩) 1 1], .slice (some ⟨B + 18, 0, none⟩) 1 1, .slice (some ⟨B + 19, 0, none⟩) 1 1, .slice (some ⟨B + 20, 0, none⟩) 1 1, .agg #[.slice (some ⟨B + 18, 0, none⟩) 1 1, .slice (some ⟨B + 19, 0, none⟩) 1 1, .slice (some ⟨B + 20, 0, none⟩) 1 1], .slice (some ⟨B + 21, 0, none⟩) 2 2, .agg #[.slice (some ⟨B + 14, 0, none⟩) 1 1, .slice (some ⟨B + 21, 0, none⟩) 2 2], .slice (some ⟨B + 22, 0, none⟩) 1 1, .slice (some ⟨B + 23, 0, none⟩) 1 1, .slice (some ⟨B + 24, 0, none⟩) 1 1, .slice (some ⟨B + 25, 0, none⟩) 1 1, .agg #[.slice (some ⟨B + 23, 0, none⟩) 1 1, .slice (some ⟨B + 24, 0, none⟩) 1 1, .slice (some ⟨B + 25, 0, none⟩) 1 1], .slice (some ⟨B + 26, 0, none⟩) 1 1, .slice (some ⟨B + 27, 0, none⟩) 1 1, .slice (some ⟨B + 28, 0, none⟩) 1 1, .agg #[.slice (some ⟨B + 26, 0, none⟩) 1 1, .slice (some ⟨B + 27, 0, none⟩) 1 1, .slice (some ⟨B + 28, 0, none⟩) 1 1], .slice (some ⟨B + 29, 0, none⟩) 1 1, .slice (some ⟨B + 30, 0, none⟩) 1 1, .slice (some ⟨B + 31, 0, none⟩) 1 1, .agg #[.slice (some ⟨B + 29, 0, none⟩) 1 1, .slice (some ⟨B + 30, 0, none⟩) 1 1, .slice (some ⟨B + 31, 0, none⟩) 1 1], .slice (some ⟨B + 32, 0, none⟩) 3 3, .agg #[.slice (some ⟨B + 22, 0, none⟩) 1 1, .slice (some ⟨B + 32, 0, none⟩) 3 3], .slice (some ⟨B + 33, 0, none⟩) 1 1, .slice (some ⟨B + 34, 0, none⟩) 1 1, .slice (some ⟨B + 35, 0, none⟩) 1 1, .slice (some ⟨B + 36, 0, none⟩) 1 1, .agg #[.slice (some ⟨B + 34, 0, none⟩) 1 1, .slice (some ⟨B + 35, 0, none⟩) 1 1, .slice (some ⟨B + 36, 0, none⟩) 1 1], .slice (some ⟨B + 37, 0, none⟩) 1 1, .slice (some ⟨B + 38, 0, none⟩) 1 1, .slice (some ⟨B + 39, 0, none⟩) 1 1, .agg #[.slice (some ⟨B + 37, 0, none⟩) 1 1, .slice (some ⟨B + 38, 0, none⟩) 1 1, .slice (some ⟨B + 39, 0, none⟩) 1 1], .slice (some ⟨B + 40, 0, none⟩) 1 1, .slice (some ⟨B + 41, 0, none⟩) 1 1, .slice (some ⟨B + 42, 0, none⟩) 1 1, .agg #[.slice (some ⟨B + 40, 0, none⟩) 1 1, .slice (some ⟨B + 41, 0, none⟩) 1 1, .slice (some ⟨B + 42, 0, none⟩) 1 1], .slice (some ⟨B + 43, 0, none⟩) 3 3, .agg #[.slice (some ⟨B + 33, 0, none⟩) 1 1, .slice (some ⟨B + 43, 0, none⟩) 3 3], undef, undef, undef, undef, undef, undef, undef, undef, undef, undef, undef, undef, undef, undef, undef, undef, undef, undef, undef, undef, undef, undef, undef, undef, undef, undef, undef, undef, undef, undef, undef, undef, undef, undef, undef, undef, undef, undef, undef, undef, undef, undef, undef, undef, undef, undef, undef, undef, undef, undef, undef, undef, undef, undef, undef, undef, undef, undef, undef, undef, undef, undef, undef, undef, undef, undef, undef, undef, undef, undef, undef, undef, undef, undef, undef, undef, undef, undef, undef, undef, undef, undef, undef, undef, undef, undef, undef, undef, undef, undef, undef, undef, undef, undef, undef, undef, undef, undef, undef, undef, undef, undef, undef, undef, undef, undef, undef, undef, undef, undef, undef, undef, undef, undef, undef, undef, undef, undef, undef, undef, undef, undef, undef, undef, undef, undef, undef, undef, undef, undef, undef, undef, undef, undef, undef, undef, undef, undef, undef, undef, undef, undef, undef]
def F5 (i : Int) (B : Nat) : List Value := [.int .i64 i, undef, .pointer (some ⟨B, 0, none⟩), undef, .slice (some ⟨B + 1, 0, none⟩) 1 1, .slice (some ⟨B + 2, 0, none⟩) 1 1, .slice (some ⟨B + 3, 0, none⟩) 1 1, .slice (some ⟨B + 4, 0, none⟩) 1 1, .agg #[.slice (some ⟨B + 2, 0, none⟩) 1 1, .slice (some ⟨B + 3, 0, none⟩) 1 1, .slice (some ⟨B + 4, 0, none⟩) 1 1], .slice (some ⟨B + 5, 0, none⟩) 1 1, .agg #[.slice (some ⟨B + 1, 0, none⟩) 1 1, .slice (some ⟨B + 5, 0, none⟩) 1 1], .slice (some ⟨B + 6, 0, none⟩) 1 1, .slice (some ⟨B + 7, 0, none⟩) 1 1, .slice (some ⟨B + 8, 0, none⟩) 1 1, .slice (some ⟨B + 9, 0, none⟩) 1 1, .agg #[.slice (some ⟨B + 7, 0, none⟩) 1 1, .slice (some ⟨B + 8, 0, none⟩) 1 1, .slice (some ⟨B + 9, 0, none⟩) 1 1], .slice (some ⟨B + 10, 0, none⟩) 1 1, .slice (some ⟨B + 11, 0, none⟩) 1 1, .slice (some ⟨B + 12, 0, none⟩) 1 1, .agg #[.slice (some ⟨B + 10, 0, none⟩) 1 1, .slice (some ⟨B + 11, 0, none⟩) 1 1, .slice (some ⟨B + 12, 0, none⟩) 1 1], .slice (some ⟨B + 13, 0, none⟩) 2 2, .agg #[.slice (some ⟨B + 6, 0, none⟩) 1 1, .slice (some ⟨B + 13, 0, none⟩) 2 2], .slice (some ⟨B + 14, 0, none⟩) 1 1, .slice (some ⟨B + 15, 0, none⟩) 1 1, .slice (some ⟨B + 16, 0, none⟩) 1 1, .slice (some ⟨B + 17, 0, none⟩) 1 1, .agg #[.slice (some ⟨B + 15, 0, none⟩) 1 1, .slice (some ⟨B + 16, 0, none⟩) 1 1, .slice (some ⟨B + 17, 0, none⟩) 1 1], .slice (some ⟨B + 18, 0, none⟩) 1 1, .slice (some ⟨B + 19, 0, none⟩) 1 1, .slice (some ⟨B + 20, 0, none⟩) 1 1, .agg #[.slice (some ⟨B + 18, 0, none⟩) 1 1, .slice (some ⟨B + 19, 0, none⟩) 1 1, .slice (some ⟨B + 20, 0, none⟩) 1 1], .slice (some ⟨B + 21, 0, none⟩) 2 2, .agg #[.slice (some ⟨B + 14, 0, none⟩) 1 1, .slice (some ⟨B + 21, 0, none⟩) 2 2], .slice (some ⟨B + 22, 0, none⟩) 1 1, .slice (some ⟨B + 23, 0, none⟩) 1 1, .slice (some ⟨B + 24, 0, none⟩) 1 1, .slice (some ⟨B + 25, 0, none⟩) 1 1, .agg #[.slice (some ⟨B + 23, 0, none⟩) 1 1, .slice (some ⟨B + 24, 0, none⟩) 1 1, .slice (some ⟨B + 25, 0, none⟩) 1 1], .slice (some ⟨B + 26, 0, none⟩) 1 1, .slice (some ⟨B + 27, 0, none⟩) 1 1, .slice (some ⟨B + 28, 0, none⟩) 1 1, .agg #[.slice (some ⟨B + 26, 0, none⟩) 1 1, .slice (some ⟨B + 27, 0, none⟩) 1 1, .slice (some ⟨B + 28, 0, none⟩) 1 1], .slice (some ⟨B + 29, 0, none⟩) 1 1, .slice (some ⟨B + 30, 0, none⟩) 1 1, .slice (some ⟨B + 31, 0, none⟩) 1 1, .agg #[.slice (some ⟨B + 29, 0, none⟩) 1 1, .slice (some ⟨B + 30, 0, none⟩) 1 1, .slice (some ⟨B + 31, 0, none⟩) 1 1], .slice (some ⟨B + 32, 0, none⟩) 3 3, .agg #[.slice (some ⟨B + 22, 0, none⟩) 1 1, .slice (some ⟨B + 32, 0, none⟩) 3 3], .slice (some ⟨B + 33, 0, none⟩) 1 1, .slice (some ⟨B + 34, 0, none⟩) 1 1, .slice (some ⟨B + 35, 0, none⟩) 1 1, .slice (some ⟨B + 36, 0, none⟩) 1 1, .agg #[.slice (some ⟨B + 34, 0, none⟩) 1 1, .slice (some ⟨B + 35, 0, none⟩) 1 1, .slice (some ⟨B + 36, 0, none⟩) 1 1], .slice (some ⟨B + 37, 0, none⟩) 1 1, .slice (some ⟨B + 38, 0, none⟩) 1 1, .slice (some ⟨B + 39, 0, none⟩) 1 1, .agg #[.slice (some ⟨B + 37, 0, none⟩) 1 1, .slice (some ⟨B + 38, 0, none⟩) 1 1, .slice (some ⟨B + 39, 0, none⟩) 1 1], .slice (some ⟨B + 40, 0, none⟩) 1 1, .slice (some ⟨B + 41, 0, none⟩) 1 1, .slice (some ⟨B + 42, 0, none⟩) 1 1, .agg #[.slice (some ⟨B + 40, 0, none⟩) 1 1, .slice (some ⟨B + 41, 0, none⟩) 1 1, .slice (some ⟨B + 42, 0, none⟩) 1 1], .slice (some ⟨B + 43, 0, none⟩) 3 3, .agg #[.slice (some ⟨B + 33, 0, none⟩) 1 1, .slice (some ⟨B + 43, 0, none⟩) 3 3], .slice (some ⟨B + 44, 0, none⟩) 1 1, .slice (some ⟨B + 45, 0, none⟩) 1 1, .slice (some ⟨B + 46, 0, none⟩) 1 1, .slice (some ⟨B + 47, 0, none⟩) 1 1, .agg #[.slice (some ⟨B + 45, 0, none⟩) 1 1, .slice (some ⟨B + 46, 0, none⟩) 1 1, .slice (some ⟨B + 47, 0, none⟩) 1 1], .slice (some ⟨B + 48, 0, none⟩) 1 1, .slice (some ⟨B + 49, 0, none⟩) 1 1, .slice (some ⟨B + 50, 0, none⟩) 1 1, .agg #[.slice (some ⟨B + 48, 0, none⟩) 1 1, .slice (some ⟨B + 49, 0, none⟩) 1 1, .slice (some ⟨B + 50, 0, none⟩) 1 1], .slice (some ⟨B + 51, 0, none⟩) 1 1, .slice (some ⟨B + 52, 0, none⟩) 1 1, .slice (some ⟨B + 53, 0, none⟩) 1 1, .agg #[.slice (some ⟨B + 51, 0, none⟩) 1 1, .slice (some ⟨B + 52, 0, none⟩) 1 1, .slice (some ⟨B + 53, 0, none⟩) 1 1], .slice (some ⟨B + 54, 0, none⟩) 1 1, .slice (some ⟨B + 55, 0, none⟩) 1 1, .slice (some ⟨B + 56, 0, none⟩) 1 1, .agg #[.slice (some ⟨B + 54, 0, none⟩) 1 1, .slice (some ⟨B + 55, 0, none⟩) 1 1, .slice (some ⟨B + 56, 0, none⟩) 1 1], .slice (some ⟨B + 57, 0, none⟩) 4 4, .agg #[.slice (some ⟨B + 44, 0, none⟩) 1 1, .slice (some ⟨B + 57, 0, none⟩) 4 4], undef, undef, undef, undef, undef, undef, undef, undef, undef, undef, undef, undef, undef, undef, undef, undef, undef, undef, undef, undef, undef, undef, undef, undef, undef, undef, undef, undef, undef, undef, undef, undef, undef, undef, undef, undef, undef, undef, undef, undef, undef, undef, undef, undef, undef, undef, undef, undef, undef, undef, undef, undef, undef, undef, undef, undef, undef, undef, undef, undef, undef, undef, undef, undef, undef, undef, undef, undef, undef, undef, undef, undef, undef, undef, undef, undef, undef, undef, undef, undef, undef, undef, undef, undef, undef, undef, undef, undef, undef, undef, undef, undef, undef, undef, undef, undef, undef, undef, undef, undef, undef, undef, undef, undef, undef, undef, undef, undef, undef, undef, undef, undef, undef, undef, undef, undef, undef, undef, undef, undef, undef, undef, undef, undef]
def F6 (i : Int) (B : Nat) : List Value := [.int .i64 i, undef, .pointer (some ⟨B, 0, none⟩), undef, .slice (some ⟨B + 1, 0, none⟩) 1 1, .slice (some ⟨B + 2, 0, none⟩) 1 1, .slice (some ⟨B + 3, 0, none⟩) 1 1, .slice (some ⟨B + 4, 0, none⟩) 1 1, .agg #[.slice (some ⟨B + 2, 0, none⟩) 1 1, .slice (some ⟨B + 3, 0, none⟩) 1 1, .slice (some ⟨B + 4, 0, none⟩) 1 1], .slice (some ⟨B + 5, 0, none⟩) 1 1, .agg #[.slice (some ⟨B + 1, 0, none⟩) 1 1, .slice (some ⟨B + 5, 0, none⟩) 1 1], .slice (some ⟨B + 6, 0, none⟩) 1 1, .slice (some ⟨B + 7, 0, none⟩) 1 1, .slice (some ⟨B + 8, 0, none⟩) 1 1, .slice (some ⟨B + 9, 0, none⟩) 1 1, .agg #[.slice (some ⟨B + 7, 0, none⟩) 1 1, .slice (some ⟨B + 8, 0, none⟩) 1 1, .slice (some ⟨B + 9, 0, none⟩) 1 1], .slice (some ⟨B + 10, 0, none⟩) 1 1, .slice (some ⟨B + 11, 0, none⟩) 1 1, .slice (some ⟨B + 12, 0, none⟩) 1 1, .agg #[.slice (some ⟨B + 10, 0, none⟩) 1 1, .slice (some ⟨B + 11, 0, none⟩) 1 1, .slice (some ⟨B + 12, 0, none⟩) 1 1], .slice (some ⟨B + 13, 0, none⟩) 2 2, .agg #[.slice (some ⟨B + 6, 0, none⟩) 1 1, .slice (some ⟨B + 13, 0, none⟩) 2 2], .slice (some ⟨B + 14, 0, none⟩) 1 1, .slice (some ⟨B + 15, 0, none⟩) 1 1, .slice (some ⟨B + 16, 0, none⟩) 1 1, .slice (some ⟨B + 17, 0, none⟩) 1 1, .agg #[.slice (some ⟨B + 15, 0, none⟩) 1 1, .slice (some ⟨B + 16, 0, none⟩) 1 1, .slice (some ⟨B + 17, 0, none⟩) 1 1], .slice (some ⟨B + 18, 0, none⟩) 1 1, .slice (some ⟨B + 19, 0, none⟩) 1 1, .slice (some ⟨B + 20, 0, none⟩) 1 1, .agg #[.slice (some ⟨B + 18, 0, none⟩) 1 1, .slice (some ⟨B + 19, 0, none⟩) 1 1, .slice (some ⟨B + 20, 0, none⟩) 1 1], .slice (some ⟨B + 21, 0, none⟩) 2 2, .agg #[.slice (some ⟨B + 14, 0, none⟩) 1 1, .slice (some ⟨B + 21, 0, none⟩) 2 2], .slice (some ⟨B + 22, 0, none⟩) 1 1, .slice (some ⟨B + 23, 0, none⟩) 1 1, .slice (some ⟨B + 24, 0, none⟩) 1 1, .slice (some ⟨B + 25, 0, none⟩) 1 1, .agg #[.slice (some ⟨B + 23, 0, none⟩) 1 1, .slice (some ⟨B + 24, 0, none⟩) 1 1, .slice (some ⟨B + 25, 0, none⟩) 1 1], .slice (some ⟨B + 26, 0, none⟩) 1 1, .slice (some ⟨B + 27, 0, none⟩) 1 1, .slice (some ⟨B + 28, 0, none⟩) 1 1, .agg #[.slice (some ⟨B + 26, 0, none⟩) 1 1, .slice (some ⟨B + 27, 0, none⟩) 1 1, .slice (some ⟨B + 28, 0, none⟩) 1 1], .slice (some ⟨B + 29, 0, none⟩) 1 1, .slice (some ⟨B + 30, 0, none⟩) 1 1, .slice (some ⟨B + 31, 0, none⟩) 1 1, .agg #[.slice (some ⟨B + 29, 0, none⟩) 1 1, .slice (some ⟨B + 30, 0, none⟩) 1 1, .slice (some ⟨B + 31, 0, none⟩) 1 1], .slice (some ⟨B + 32, 0, none⟩) 3 3, .agg #[.slice (some ⟨B + 22, 0, none⟩) 1 1, .slice (some ⟨B + 32, 0, none⟩) 3 3], .slice (some ⟨B + 33, 0, none⟩) 1 1, .slice (some ⟨B + 34, 0, none⟩) 1 1, .slice (some ⟨B + 35, 0, none⟩) 1 1, .slice (some ⟨B + 36, 0, none⟩) 1 1, .agg #[.slice (some ⟨B + 34, 0, none⟩) 1 1, .slice (some ⟨B + 35, 0, none⟩) 1 1, .slice (some ⟨B + 36, 0, none⟩) 1 1], .slice (some ⟨B + 37, 0, none⟩) 1 1, .slice (some ⟨B + 38, 0, none⟩) 1 1, .slice (some ⟨B + 39, 0, none⟩) 1 1, .agg #[.slice (some ⟨B + 37, 0, none⟩) 1 1, .slice (some ⟨B + 38, 0, none⟩) 1 1, .slice (some ⟨B + 39, 0, none⟩) 1 1], .slice (some ⟨B + 40, 0, none⟩) 1 1, .slice (some ⟨B + 41, 0, none⟩) 1 1, .slice (some ⟨B + 42, 0, none⟩) 1 1, .agg #[.slice (some ⟨B + 40, 0, none⟩) 1 1, .slice (some ⟨B + 41, 0, none⟩) 1 1, .slice (some ⟨B + 42, 0, none⟩) 1 1], .slice (some ⟨B + 43, 0, none⟩) 3 3, .agg #[.slice (some ⟨B + 33, 0, none⟩) 1 1, .slice (some ⟨B + 43, 0, none⟩) 3 3], .slice (some ⟨B + 44, 0, none⟩) 1 1, .slice (some ⟨B + 45, 0, none⟩) 1 1, .slice (some ⟨B + 46, 0, none⟩) 1 1, .slice (some ⟨B + 47, 0, none⟩) 1 1, .agg #[.slice (some ⟨B + 45, 0, none⟩) 1 1, .slice (some ⟨B + 46, 0, none⟩) 1 1, .slice (some ⟨B + 47, 0, none⟩) 1 1], .slice (some ⟨B + 48, 0, none⟩) 1 1, .slice (some ⟨B + 49, 0, none⟩) 1 1, .slice (some ⟨B + 50, 0, none⟩) 1 1, .agg #[.slice (some ⟨B + 48, 0, none⟩) 1 1, .slice (some ⟨B + 49, 0, none⟩) 1 1, .slice (some ⟨B + 50, 0, none⟩) 1 1], .slice (some ⟨B + 51, 0, none⟩) 1 1, .slice (some ⟨B + 52, 0, none⟩) 1 1, .slice (some ⟨B + 53, 0, none⟩) 1 1, .agg #[.slice (some ⟨B + 51, 0, none⟩) 1 1, .slice (some ⟨B + 52, 0, none⟩) 1 1, .slice (some ⟨B + 53, 0, none⟩) 1 1], .slice (some ⟨B + 54, 0, none⟩) 1 1, .slice (some ⟨B + 55, 0, none⟩) 1 1, .slice (some ⟨B + 56, 0, none⟩) 1 1, .agg #[.slice (some ⟨B + 54, 0, none⟩) 1 1, .slice (some ⟨B + 55, 0, none⟩) 1 1, .slice (some ⟨B + 56, 0, none⟩) 1 1], .slice (some ⟨B + 57, 0, none⟩) 4 4, .agg #[.slice (some ⟨B + 44, 0, none⟩) 1 1, .slice (some ⟨B + 57, 0, none⟩) 4 4], .slice (some ⟨B + 58, 0, none⟩) 1 1, .slice (some ⟨B + 59, 0, none⟩) 2 2, .slice (some ⟨B + 60, 0, none⟩) 2 2, .slice (some ⟨B + 61, 0, none⟩) 1 1, .agg #[.slice (some ⟨B + 59, 0, none⟩) 2 2, .slice (some ⟨B + 60, 0, none⟩) 2 2, .slice (some ⟨B + 61, 0, none⟩) 1 1], .slice (some ⟨B + 62, 0, none⟩) 2 2, .slice (some ⟨B + 63, 0, none⟩) 1 1, .slice (some ⟨B + 64, 0, none⟩) 1 1, .agg #[.slice (some ⟨B + 62, 0, none⟩) 2 2, .slice (some ⟨B + 63, 0, none⟩) 1 1, .slice (some ⟨B + 64, 0, none⟩) 1 1], .slice (some ⟨B + 65, 0, none⟩) 1 1, .slice (some ⟨B + 66, 0, none⟩) 1 1, .slice (some ⟨B + 67, 0, none⟩) 1 1, .agg #[.slice (some ⟨B + 65, 0, none⟩) 1 1, .slice (some ⟨B + 66, 0, none⟩) 1 1, .slice (some ⟨B + 67, 0, none⟩) 1 1], .slice (some ⟨B + 68, 0, none⟩) 1 1, .slice (some ⟨B + 69, 0, none⟩) 1 1, .slice (some ⟨B + 70, 0, none⟩) 1 1, .agg #[.slice (some ⟨B + 68, 0, none⟩) 1 1, .slice (some ⟨B + 69, 0, none⟩) 1 1, .slice (some ⟨B + 70, 0, none⟩) 1 1], .slice (some ⟨B + 71, 0, none⟩) 4 4, .agg #[.slice (some ⟨B + 58, 0, none⟩) 1 1, .slice (some ⟨B + 71, 0, none⟩) 4 4], undef, undef, undef, undef, undef, undef, undef, undef, undef, undef, undef, undef, undef, undef, undef, undef, undef, undef, undef, undef, undef, undef, undef, undef, undef, undef, undef, undef, undef, undef, undef, undef, undef, undef, undef, undef, undef, undef, undef, undef, undef, undef, undef, undef, undef, undef, undef, undef, undef, undef, undef, undef, undef, undef, undef, undef, undef, undef, undef, undef, undef, undef, undef, undef, undef, undef, undef, undef, undef, undef, undef, undef, undef, undef, undef, undef, undef, undef, undef, undef, undef, undef, undef, undef, undef, undef, undef, undef, undef, undef, undef, undef, undef, undef, undef, undef, undef, undef, undef, undef, undef, undef, undef, undef, undef]
def F7 (i : Int) (B : Nat) : List Value := [.int .i64 i, undef, .pointer (some ⟨B, 0, none⟩), undef, .slice (some ⟨B + 1, 0, none⟩) 1 1, .slice (some ⟨B + 2, 0, none⟩) 1 1, .slice (some ⟨B + 3, 0, none⟩) 1 1, .slice (some ⟨B + 4, 0, none⟩) 1 1, .agg #[.slice (some ⟨B + 2, 0, none⟩) 1 1, .slice (some ⟨B + 3, 0, none⟩) 1 1, .slice (some ⟨B + 4, 0, none⟩) 1 1], .slice (some ⟨B + 5, 0, none⟩) 1 1, .agg #[.slice (some ⟨B + 1, 0, none⟩) 1 1, .slice (some ⟨B + 5, 0, none⟩) 1 1], .slice (some ⟨B + 6, 0, none⟩) 1 1, .slice (some ⟨B + 7, 0, none⟩) 1 1, .slice (some ⟨B + 8, 0, none⟩) 1 1, .slice (some ⟨B + 9, 0, none⟩) 1 1, .agg #[.slice (some ⟨B + 7, 0, none⟩) 1 1, .slice (some ⟨B + 8, 0, none⟩) 1 1, .slice (some ⟨B + 9, 0, none⟩) 1 1], .slice (some ⟨B + 10, 0, none⟩) 1 1, .slice (some ⟨B + 11, 0, none⟩) 1 1, .slice (some ⟨B + 12, 0, none⟩) 1 1, .agg #[.slice (some ⟨B + 10, 0, none⟩) 1 1, .slice (some ⟨B + 11, 0, none⟩) 1 1, .slice (some ⟨B + 12, 0, none⟩) 1 1], .slice (some ⟨B + 13, 0, none⟩) 2 2, .agg #[.slice (some ⟨B + 6, 0, none⟩) 1 1, .slice (some ⟨B + 13, 0, none⟩) 2 2], .slice (some ⟨B + 14, 0, none⟩) 1 1, .slice (some ⟨B + 15, 0, none⟩) 1 1, .slice (some ⟨B + 16, 0, none⟩) 1 1, .slice (some ⟨B + 17, 0, none⟩) 1 1, .agg #[.slice (some ⟨B + 15, 0, none⟩) 1 1, .slice (some ⟨B + 16, 0, none⟩) 1 1, .slice (some ⟨B + 17, 0, none⟩) 1 1], .slice (some ⟨B + 18, 0, none⟩) 1 1, .slice (some ⟨B + 19, 0, none⟩) 1 1, .slice (some ⟨B + 20, 0, none⟩) 1 1, .agg #[.slice (some ⟨B + 18, 0, none⟩) 1 1, .slice (some ⟨B + 19, 0, none⟩) 1 1, .slice (some ⟨B + 20, 0, none⟩) 1 1], .slice (some ⟨B + 21, 0, none⟩) 2 2, .agg #[.slice (some ⟨B + 14, 0, none⟩) 1 1, .slice (some ⟨B + 21, 0, none⟩) 2 2], .slice (some ⟨B + 22, 0, none⟩) 1 1, .slice (some ⟨B + 23, 0, none⟩) 1 1, .slice (some ⟨B + 24, 0, none⟩) 1 1, .slice (some ⟨B + 25, 0, none⟩) 1 1, .agg #[.slice (some ⟨B + 23, 0, none⟩) 1 1, .slice (some ⟨B + 24, 0, none⟩) 1 1, .slice (some ⟨B + 25, 0, none⟩) 1 1], .slice (some ⟨B + 26, 0, none⟩) 1 1, .slice (some ⟨B + 27, 0, none⟩) 1 1, .slice (some ⟨B + 28, 0, none⟩) 1 1, .agg #[.slice (some ⟨B + 26, 0, none⟩) 1 1, .slice (some ⟨B + 27, 0, none⟩) 1 1, .slice (some ⟨B + 28, 0, none⟩) 1 1], .slice (some ⟨B + 29, 0, none⟩) 1 1, .slice (some ⟨B + 30, 0, none⟩) 1 1, .slice (some ⟨B + 31, 0, none⟩) 1 1, .agg #[.slice (some ⟨B + 29, 0, none⟩) 1 1, .slice (some ⟨B + 30, 0, none⟩) 1 1, .slice (some ⟨B + 31, 0, none⟩) 1 1], .slice (some ⟨B + 32, 0, none⟩) 3 3, .agg #[.slice (some ⟨B + 22, 0, none⟩) 1 1, .slice (some ⟨B + 32, 0, none⟩) 3 3], .slice (some ⟨B + 33, 0, none⟩) 1 1, .slice (some ⟨B + 34, 0, none⟩) 1 1, .slice (some ⟨B + 35, 0, none⟩) 1 1, .slice (some ⟨B + 36, 0, none⟩) 1 1, .agg #[.slice (some ⟨B + 34, 0, none⟩) 1 1, .slice (some ⟨B + 35, 0, none⟩) 1 1, .slice (some ⟨B + 36, 0, none⟩) 1 1], .slice (some ⟨B + 37, 0, none⟩) 1 1, .slice (some ⟨B + 38, 0, none⟩) 1 1, .slice (some ⟨B + 39, 0, none⟩) 1 1, .agg #[.slice (some ⟨B + 37, 0, none⟩) 1 1, .slice (some ⟨B + 38, 0, none⟩) 1 1, .slice (some ⟨B + 39, 0, none⟩) 1 1], .slice (some ⟨B + 40, 0, none⟩) 1 1, .slice (some ⟨B + 41, 0, none⟩) 1 1, .slice (some ⟨B + 42, 0, none⟩) 1 1, .agg #[.slice (some ⟨B + 40, 0, none⟩) 1 1, .slice (some ⟨B + 41, 0, none⟩) 1 1, .slice (some ⟨B + 42, 0, none⟩) 1 1], .slice (some ⟨B + 43, 0, none⟩) 3 3, .agg #[.slice (some ⟨B + 33, 0, none⟩) 1 1, .slice (some ⟨B + 43, 0, none⟩) 3 3], .slice (some ⟨B + 44, 0, none⟩) 1 1, .slice (some ⟨B + 45, 0, none⟩) 1 1, .slice (some ⟨B + 46, 0, none⟩) 1 1, .slice (some ⟨B + 47, 0, none⟩) 1 1, .agg #[.slice (some ⟨B + 45, 0, none⟩) 1 1, .slice (some ⟨B + 46, 0, none⟩) 1 1, .slice (some ⟨B + 47, 0, none⟩) 1 1], .slice (some ⟨B + 48, 0, none⟩) 1 1, .slice (some ⟨B + 49, 0, none⟩) 1 1, .slice (some ⟨B + 50, 0, none⟩) 1 1, .agg #[.slice (some ⟨B + 48, 0, none⟩) 1 1, .slice (some ⟨B + 49, 0, none⟩) 1 1, .slice (some ⟨B + 50, 0, none⟩) 1 1], .slice (some ⟨B + 51, 0, none⟩) 1 1, .slice (some ⟨B + 52, 0, none⟩) 1 1, .slice (some ⟨B + 53, 0, none⟩) 1 1, .agg #[.slice (some ⟨B + 51, 0, none⟩) 1 1, .slice (some ⟨B + 52, 0, none⟩) 1 1, .slice (some ⟨B + 53, 0, none⟩) 1 1], .slice (some ⟨B + 54, 0, none⟩) 1 1, .slice (some ⟨B + 55, 0, none⟩) 1 1, .slice (some ⟨B + 56, 0, none⟩) 1 1, .agg #[.slice (some ⟨B + 54, 0, none⟩) 1 1, .slice (some ⟨B + 55, 0, none⟩) 1 1, .slice (some ⟨B + 56, 0, none⟩) 1 1], .slice (some ⟨B + 57, 0, none⟩) 4 4, .agg #[.slice (some ⟨B + 44, 0, none⟩) 1 1, .slice (some ⟨B + 57, 0, none⟩) 4 4], .slice (some ⟨B + 58, 0, none⟩) 1 1, .slice (some ⟨B + 59, 0, none⟩) 2 2, .slice (some ⟨B + 60, 0, none⟩) 2 2, .slice (some ⟨B + 61, 0, none⟩) 1 1, .agg #[.slice (some ⟨B + 59, 0, none⟩) 2 2, .slice (some ⟨B + 60, 0, none⟩) 2 2, .slice (some ⟨B + 61, 0, none⟩) 1 1], .slice (some ⟨B + 62, 0, none⟩) 2 2, .slice (some ⟨B + 63, 0, none⟩) 1 1, .slice (some ⟨B + 64, 0, none⟩) 1 1, .agg #[.slice (some ⟨B + 62, 0, none⟩) 2 2, .slice (some ⟨B + 63, 0, none⟩) 1 1, .slice (some ⟨B + 64, 0, none⟩) 1 1], .slice (some ⟨B + 65, 0, none⟩) 1 1, .slice (some ⟨B + 66, 0, none⟩) 1 1, .slice (some ⟨B + 67, 0, none⟩) 1 1, .agg #[.slice (some ⟨B + 65, 0, none⟩) 1 1, .slice (some ⟨B + 66, 0, none⟩) 1 1, .slice (some ⟨B + 67, 0, none⟩) 1 1], .slice (some ⟨B + 68, 0, none⟩) 1 1, .slice (some ⟨B + 69, 0, none⟩) 1 1, .slice (some ⟨B + 70, 0, none⟩) 1 1, .agg #[.slice (some ⟨B + 68, 0, none⟩) 1 1, .slice (some ⟨B + 69, 0, none⟩) 1 1, .slice (some ⟨B + 70, 0, none⟩) 1 1], .slice (some ⟨B + 71, 0, none⟩) 4 4, .agg #[.slice (some ⟨B + 58, 0, none⟩) 1 1, .slice (some ⟨B + 71, 0, none⟩) 4 4], .slice (some ⟨B + 72, 0, none⟩) 1 1, .slice (some ⟨B + 73, 0, none⟩) 2 2, .slice (some ⟨B + 74, 0, none⟩) 2 2, .slice (some ⟨B + 75, 0, none⟩) 1 1, .agg #[.slice (some ⟨B + 73, 0, none⟩) 2 2, .slice (some ⟨B + 74, 0, none⟩) 2 2, .slice (some ⟨B + 75, 0, none⟩) 1 1], .slice (some ⟨B + 76, 0, none⟩) 2 2, .slice (some ⟨B + 77, 0, none⟩) 1 1, .slice (some ⟨B + 78, 0, none⟩) 1 1, .agg #[.slice (some ⟨B + 76, 0, none⟩) 2 2, .slice (some ⟨B + 77, 0, none⟩) 1 1, .slice (some ⟨B + 78, 0, none⟩) 1 1], .slice (some ⟨B + 79, 0, none⟩) 1 1, .slice (some ⟨B + 80, 0, none⟩) 1 1, .slice (some ⟨B + 81, 0, none⟩) 1 1, .agg #[.slice (some ⟨B + 79, 0, none⟩) 1 1, .slice (some ⟨B + 80, 0, none⟩) 1 1, .slice (some ⟨B + 81, 0, none⟩) 1 1], .slice (some ⟨B + 82, 0, none⟩) 1 1, .slice (some ⟨B + 83, 0, none⟩) 1 1, .slice (some ⟨B + 84, 0, none⟩) 1 1, .agg #[.slice (some ⟨B + 82, 0, none⟩) 1 1, .slice (some ⟨B + 83, 0, none⟩) 1 1, .slice (some ⟨B + 84, 0, none⟩) 1 1], .slice (some ⟨B + 85, 0, none⟩) 4 4, .agg #[.slice (some ⟨B + 72, 0, none⟩) 1 1, .slice (some ⟨B + 85, 0, none⟩) 4 4], undef, undef, undef, undef, undef, undef, undef, undef, undef, undef, undef, undef, undef, undef, undef, undef, undef, undef, undef, undef, undef, undef, undef, undef, undef, undef, undef, undef, undef, undef, undef, undef, undef, undef, undef, undef, undef, undef, undef, undef, undef, undef, undef, undef, undef, undef, undef, undef, undef, undef, undef, undef, undef, undef, undef, undef, undef, undef, undef, undef, undef, undef, undef, undef, undef, undef, undef, undef, undef, undef, undef, undef, undef, undef, undef, undef, undef, undef, undef, undef, undef, undef, undef, undef, undef, undef]
def F8 (i : Int) (B : Nat) : List Value := [.int .i64 i, undef, .pointer (some ⟨B, 0, none⟩), undef, .slice (some ⟨B + 1, 0, none⟩) 1 1, .slice (some ⟨B + 2, 0, none⟩) 1 1, .slice (some ⟨B + 3, 0, none⟩) 1 1, .slice (some ⟨B + 4, 0, none⟩) 1 1, .agg #[.slice (some ⟨B + 2, 0, none⟩) 1 1, .slice (some ⟨B + 3, 0, none⟩) 1 1, .slice (some ⟨B + 4, 0, none⟩) 1 1], .slice (some ⟨B + 5, 0, none⟩) 1 1, .agg #[.slice (some ⟨B + 1, 0, none⟩) 1 1, .slice (some ⟨B + 5, 0, none⟩) 1 1], .slice (some ⟨B + 6, 0, none⟩) 1 1, .slice (some ⟨B + 7, 0, none⟩) 1 1, .slice (some ⟨B + 8, 0, none⟩) 1 1, .slice (some ⟨B + 9, 0, none⟩) 1 1, .agg #[.slice (some ⟨B + 7, 0, none⟩) 1 1, .slice (some ⟨B + 8, 0, none⟩) 1 1, .slice (some ⟨B + 9, 0, none⟩) 1 1], .slice (some ⟨B + 10, 0, none⟩) 1 1, .slice (some ⟨B + 11, 0, none⟩) 1 1, .slice (some ⟨B + 12, 0, none⟩) 1 1, .agg #[.slice (some ⟨B + 10, 0, none⟩) 1 1, .slice (some ⟨B + 11, 0, none⟩) 1 1, .slice (some ⟨B + 12, 0, none⟩) 1 1], .slice (some ⟨B + 13, 0, none⟩) 2 2, .agg #[.slice (some ⟨B + 6, 0, none⟩) 1 1, .slice (some ⟨B + 13, 0, none⟩) 2 2], .slice (some ⟨B + 14, 0, none⟩) 1 1, .slice (some ⟨B + 15, 0, none⟩) 1 1, .slice (some ⟨B + 16, 0, none⟩) 1 1, .slice (some ⟨B + 17, 0, none⟩) 1 1, .agg #[.slice (some ⟨B + 15, 0, none⟩) 1 1, .slice (some ⟨B + 16, 0, none⟩) 1 1, .slice (some ⟨B + 17, 0, none⟩) 1 1], .slice (some ⟨B + 18, 0, none⟩) 1 1, .slice (some ⟨B + 19, 0, none⟩) 1 1, .slice (some ⟨B + 20, 0, none⟩) 1 1, .agg #[.slice (some ⟨B + 18, 0, none⟩) 1 1, .slice (some ⟨B + 19, 0, none⟩) 1 1, .slice (some ⟨B + 20, 0, none⟩) 1 1], .slice (some ⟨B + 21, 0, none⟩) 2 2, .agg #[.slice (some ⟨B + 14, 0, none⟩) 1 1, .slice (some ⟨B + 21, 0, none⟩) 2 2], .slice (some ⟨B + 22, 0, none⟩) 1 1, .slice (some ⟨B + 23, 0, none⟩) 1 1, .slice (some ⟨B + 24, 0, none⟩) 1 1, .slice (some ⟨B + 25, 0, none⟩) 1 1, .agg #[.slice (some ⟨B + 23, 0, none⟩) 1 1, .slice (some ⟨B + 24, 0, none⟩) 1 1, .slice (some ⟨B + 25, 0, none⟩) 1 1], .slice (some ⟨B + 26, 0, none⟩) 1 1, .slice (some ⟨B + 27, 0, none⟩) 1 1, .slice (some ⟨B + 28, 0, none⟩) 1 1, .agg #[.slice (some ⟨B + 26, 0, none⟩) 1 1, .slice (some ⟨B + 27, 0, none⟩) 1 1, .slice (some ⟨B + 28, 0, none⟩) 1 1], .slice (some ⟨B + 29, 0, none⟩) 1 1, .slice (some ⟨B + 30, 0, none⟩) 1 1, .slice (some ⟨B + 31, 0, none⟩) 1 1, .agg #[.slice (some ⟨B + 29, 0, none⟩) 1 1, .slice (some ⟨B + 30, 0, none⟩) 1 1, .slice (some ⟨B + 31, 0, none⟩) 1 1], .slice (some ⟨B + 32, 0, none⟩) 3 3, .agg #[.slice (some ⟨B + 22, 0, none⟩) 1 1, .slice (some ⟨B + 32, 0, none⟩) 3 3], .slice (some ⟨B + 33, 0, none⟩) 1 1, .slice (some ⟨B + 34, 0, none⟩) 1 1, .slice (some ⟨B + 35, 0, none⟩) 1 1, .slice (some ⟨B + 36, 0, none⟩) 1 1, .agg #[.slice (some ⟨B + 34, 0, none⟩) 1 1, .slice (some ⟨B + 35, 0, none⟩) 1 1, .slice (some ⟨B + 36, 0, none⟩) 1 1], .slice (some ⟨B + 37, 0, none⟩) 1 1, .slice (some ⟨B + 38, 0, none⟩) 1 1, .slice (some ⟨B + 39, 0, none⟩) 1 1, .agg #[.slice (some ⟨B + 37, 0, none⟩) 1 1, .slice (some ⟨B + 38, 0, none⟩) 1 1, .slice (some ⟨B + 39, 0, none⟩) 1 1], .slice (some ⟨B + 40, 0, none⟩) 1 1, .slice (some ⟨B + 41, 0, none⟩) 1 1, .slice (some ⟨B + 42, 0, none⟩) 1 1, .agg #[.slice (some ⟨B + 40, 0, none⟩) 1 1, .slice (some ⟨B + 41, 0, none⟩) 1 1, .slice (some ⟨B + 42, 0, none⟩) 1 1], .slice (some ⟨B + 43, 0, none⟩) 3 3, .agg #[.slice (some ⟨B + 33, 0, none⟩) 1 1, .slice (some ⟨B + 43, 0, none⟩) 3 3], .slice (some ⟨B + 44, 0, none⟩) 1 1, .slice (some ⟨B + 45, 0, none⟩) 1 1, .slice (some ⟨B + 46, 0, none⟩) 1 1, .slice (some ⟨B + 47, 0, none⟩) 1 1, .agg #[.slice (some ⟨B + 45, 0, none⟩) 1 1, .slice (some ⟨B + 46, 0, none⟩) 1 1, .slice (some ⟨B + 47, 0, none⟩) 1 1], .slice (some ⟨B + 48, 0, none⟩) 1 1, .slice (some ⟨B + 49, 0, none⟩) 1 1, .slice (some ⟨B + 50, 0, none⟩) 1 1, .agg #[.slice (some ⟨B + 48, 0, none⟩) 1 1, .slice (some ⟨B + 49, 0, none⟩) 1 1, .slice (some ⟨B + 50, 0, none⟩) 1 1], .slice (some ⟨B + 51, 0, none⟩) 1 1, .slice (some ⟨B + 52, 0, none⟩) 1 1, .slice (some ⟨B + 53, 0, none⟩) 1 1, .agg #[.slice (some ⟨B + 51, 0, none⟩) 1 1, .slice (some ⟨B + 52, 0, none⟩) 1 1, .slice (some ⟨B + 53, 0, none⟩) 1 1], .slice (some ⟨B + 54, 0, none⟩) 1 1, .slice (some ⟨B + 55, 0, none⟩) 1 1, .slice (some ⟨B + 56, 0, none⟩) 1 1, .agg #[.slice (some ⟨B + 54, 0, none⟩) 1 1, .slice (some ⟨B + 55, 0, none⟩) 1 1, .slice (some ⟨B + 56, 0, none⟩) 1 1], .slice (some ⟨B + 57, 0, none⟩) 4 4, .agg #[.slice (some ⟨B + 44, 0, none⟩) 1 1, .slice (some ⟨B + 57, 0, none⟩) 4 4], .slice (some ⟨B + 58, 0, none⟩) 1 1, .slice (some ⟨B + 59, 0, none⟩) 2 2, .slice (some ⟨B + 60, 0, none⟩) 2 2, .slice (some ⟨B + 61, 0, none⟩) 1 1, .agg #[.slice (some ⟨B + 59, 0, none⟩) 2 2, .slice (some ⟨B + 60, 0, none⟩) 2 2, .slice (some ⟨B + 61, 0, none⟩) 1 1], .slice (some ⟨B + 62, 0, none⟩) 2 2, .slice (some ⟨B + 63, 0, none⟩) 1 1, .slice (some ⟨B + 64, 0, none⟩) 1 1, .agg #[.slice (some ⟨B + 62, 0, none⟩) 2 2, .slice (some ⟨B + 63, 0, none⟩) 1 1, .slice (some ⟨B + 64, 0, none⟩) 1 1], .slice (some ⟨B + 65, 0, none⟩) 1 1, .slice (some ⟨B + 66, 0, none⟩) 1 1, .slice (some ⟨B + 67, 0, none⟩) 1 1, .agg #[.slice (some ⟨B + 65, 0, none⟩) 1 1, .slice (some ⟨B + 66, 0, none⟩) 1 1, .slice (some ⟨B + 67, 0, none⟩) 1 1], .slice (some ⟨B + 68, 0, none⟩) 1 1, .slice (some ⟨B + 69, 0, none⟩) 1 1, .slice (some ⟨B + 70, 0, none⟩) 1 1, .agg #[.slice (some ⟨B + 68, 0, none⟩) 1 1, .slice (some ⟨B + 69, 0, none⟩) 1 1, .slice (some ⟨B + 70, 0, none⟩) 1 1], .slice (some ⟨B + 71, 0, none⟩) 4 4, .agg #[.slice (some ⟨B + 58, 0, none⟩) 1 1, .slice (some ⟨B + 71, 0, none⟩) 4 4], .slice (some ⟨B + 72, 0, none⟩) 1 1, .slice (some ⟨B + 73, 0, none⟩) 2 2, .slice (some ⟨B + 74, 0, none⟩) 2 2, .slice (some ⟨B + 75, 0, none⟩) 1 1, .agg #[.slice (some ⟨B + 73, 0, none⟩) 2 2, .slice (some ⟨B + 74, 0, none⟩) 2 2, .slice (some ⟨B + 75, 0, none⟩) 1 1], .slice (some ⟨B + 76, 0, none⟩) 2 2, .slice (some ⟨B + 77, 0, none⟩) 1 1, .slice (some ⟨B + 78, 0, none⟩) 1 1, .agg #[.slice (some ⟨B + 76, 0, none⟩) 2 2, .slice (some ⟨B + 77, 0, none⟩) 1 1, .slice (some ⟨B + 78, 0, none⟩) 1 1], .slice (some ⟨B + 79, 0, none⟩) 1 1, .slice (some ⟨B + 80, 0, none⟩) 1 1, .slice (some ⟨B + 81, 0, none⟩) 1 1, .agg #[.slice (some ⟨B + 79, 0, none⟩) 1 1, .slice (some ⟨B + 80, 0, none⟩) 1 1, .slice (some ⟨B + 81, 0, none⟩) 1 1], .slice (some ⟨B + 82, 0, none⟩) 1 1, .slice (some ⟨B + 83, 0, none⟩) 1 1, .slice (some ⟨B + 84, 0, none⟩) 1 1, .agg #[.slice (some ⟨B + 82, 0, none⟩) 1 1, .slice (some ⟨B + 83, 0, none⟩) 1 1, .slice (some ⟨B + 84, 0, none⟩) 1 1], .slice (some ⟨B + 85, 0, none⟩) 4 4, .agg #[.slice (some ⟨B + 72, 0, none⟩) 1 1, .slice (some ⟨B + 85, 0, none⟩) 4 4], .slice (some ⟨B + 86, 0, none⟩) 1 1, .slice (some ⟨B + 87, 0, none⟩) 2 2, .slice (some ⟨B + 88, 0, none⟩) 2 2, .slice (some ⟨B + 89, 0, none⟩) 1 1, .agg #[.slice (some ⟨B + 87, 0, none⟩) 2 2, .slice (some ⟨B + 88, 0, none⟩) 2 2, .slice (some ⟨B + 89, 0, none⟩) 1 1], .slice (some ⟨B + 90, 0, none⟩) 2 2, .slice (some ⟨B + 91, 0, none⟩) 2 2, .slice (some ⟨B + 92, 0, none⟩) 1 1, .agg #[.slice (some ⟨B + 90, 0, none⟩) 2 2, .slice (some ⟨B + 91, 0, none⟩) 2 2, .slice (some ⟨B + 92, 0, none⟩) 1 1], .slice (some ⟨B + 93, 0, none⟩) 2 2, .slice (some ⟨B + 94, 0, none⟩) 1 1, .slice (some ⟨B + 95, 0, none⟩) 1 1, .agg #[.slice (some ⟨B + 93, 0, none⟩) 2 2, .slice (some ⟨B + 94, 0, none⟩) 1 1, .slice (some ⟨B + 95, 0, none⟩) 1 1], .slice (some ⟨B + 96, 0, none⟩) 1 1, .slice (some ⟨B + 97, 0, none⟩) 1 1, .slice (some ⟨B + 98, 0, none⟩) 1 1, .agg #[.slice (some ⟨B + 96, 0, none⟩) 1 1, .slice (some ⟨B + 97, 0, none⟩) 1 1, .slice (some ⟨B + 98, 0, none⟩) 1 1], .slice (some ⟨B + 99, 0, none⟩) 1 1, .slice (some ⟨B + 100, 0, none⟩) 1 1, .slice (some ⟨B + 101, 0, none⟩) 1 1, .agg #[.slice (some ⟨B + 99, 0, none⟩) 1 1, .slice (some ⟨B + 100, 0, none⟩) 1 1, .slice (some ⟨B + 101, 0, none⟩) 1 1], .slice (some ⟨B + 102, 0, none⟩) 5 5, .agg #[.slice (some ⟨B + 86, 0, none⟩) 1 1, .slice (some ⟨B + 102, 0, none⟩) 5 5], undef, undef, undef, undef, undef, undef, undef, undef, undef, undef, undef, undef, undef, undef, undef, undef, undef, undef, undef, undef, undef, undef, undef, undef, undef, undef, undef, undef, undef, undef, undef, undef, undef, undef, undef, undef, undef, undef, undef, undef, undef, undef, undef, undef, undef, undef, undef, undef, undef, undef, undef, undef, undef, undef, undef, undef, undef, undef, undef, undef, undef, undef, undef]
def F9 (i : Int) (B : Nat) : List Value := [.int .i64 i, undef, .pointer (some ⟨B, 0, none⟩), undef, .slice (some ⟨B + 1, 0, none⟩) 1 1, .slice (some ⟨B + 2, 0, none⟩) 1 1, .slice (some ⟨B + 3, 0, none⟩) 1 1, .slice (some ⟨B + 4, 0, none⟩) 1 1, .agg #[.slice (some ⟨B + 2, 0, none⟩) 1 1, .slice (some ⟨B + 3, 0, none⟩) 1 1, .slice (some ⟨B + 4, 0, none⟩) 1 1], .slice (some ⟨B + 5, 0, none⟩) 1 1, .agg #[.slice (some ⟨B + 1, 0, none⟩) 1 1, .slice (some ⟨B + 5, 0, none⟩) 1 1], .slice (some ⟨B + 6, 0, none⟩) 1 1, .slice (some ⟨B + 7, 0, none⟩) 1 1, .slice (some ⟨B + 8, 0, none⟩) 1 1, .slice (some ⟨B + 9, 0, none⟩) 1 1, .agg #[.slice (some ⟨B + 7, 0, none⟩) 1 1, .slice (some ⟨B + 8, 0, none⟩) 1 1, .slice (some ⟨B + 9, 0, none⟩) 1 1], .slice (some ⟨B + 10, 0, none⟩) 1 1, .slice (some ⟨B + 11, 0, none⟩) 1 1, .slice (some ⟨B + 12, 0, none⟩) 1 1, .agg #[.slice (some ⟨B + 10, 0, none⟩) 1 1, .slice (some ⟨B + 11, 0, none⟩) 1 1, .slice (some ⟨B + 12, 0, none⟩) 1 1], .slice (some ⟨B + 13, 0, none⟩) 2 2, .agg #[.slice (some ⟨B + 6, 0, none⟩) 1 1, .slice (some ⟨B + 13, 0, none⟩) 2 2], .slice (some ⟨B + 14, 0, none⟩) 1 1, .slice (some ⟨B + 15, 0, none⟩) 1 1, .slice (some ⟨B + 16, 0, none⟩) 1 1, .slice (some ⟨B + 17, 0, none⟩) 1 1, .agg #[.slice (some ⟨B + 15, 0, none⟩) 1 1, .slice (some ⟨B + 16, 0, none⟩) 1 1, .slice (some ⟨B + 17, 0, none⟩) 1 1], .slice (some ⟨B + 18, 0, none⟩) 1 1, .slice (some ⟨B + 19, 0, none⟩) 1 1, .slice (some ⟨B + 20, 0, none⟩) 1 1, .agg #[.slice (some ⟨B + 18, 0, none⟩) 1 1, .slice (some ⟨B + 19, 0, none⟩) 1 1, .slice (some ⟨B + 20, 0, none⟩) 1 1], .slice (some ⟨B + 21, 0, none⟩) 2 2, .agg #[.slice (some ⟨B + 14, 0, none⟩) 1 1, .slice (some ⟨B + 21, 0, none⟩) 2 2], .slice (some ⟨B + 22, 0, none⟩) 1 1, .slice (some ⟨B + 23, 0, none⟩) 1 1, .slice (some ⟨B + 24, 0, none⟩) 1 1, .slice (some ⟨B + 25, 0, none⟩) 1 1, .agg #[.slice (some ⟨B + 23, 0, none⟩) 1 1, .slice (some ⟨B + 24, 0, none⟩) 1 1, .slice (some ⟨B + 25, 0, none⟩) 1 1], .slice (some ⟨B + 26, 0, none⟩) 1 1, .slice (some ⟨B + 27, 0, none⟩) 1 1, .slice (some ⟨B + 28, 0, none⟩) 1 1, .agg #[.slice (some ⟨B + 26, 0, none⟩) 1 1, .slice (some ⟨B + 27, 0, none⟩) 1 1, .slice (some ⟨B + 28, 0, none⟩) 1 1], .slice (some ⟨B + 29, 0, none⟩) 1 1, .slice (some ⟨B + 30, 0, none⟩) 1 1, .slice (some ⟨B + 31, 0, none⟩) 1 1, .agg #[.slice (some ⟨B + 29, 0, none⟩) 1 1, .slice (some ⟨B + 30, 0, none⟩) 1 1, .slice (some ⟨B + 31, 0, none⟩) 1 1], .slice (some ⟨B + 32, 0, none⟩) 3 3, .agg #[.slice (some ⟨B + 22, 0, none⟩) 1 1, .slice (some ⟨B + 32, 0, none⟩) 3 3], .slice (some ⟨B + 33, 0, none⟩) 1 1, .slice (some ⟨B + 34, 0, none⟩) 1 1, .slice (some ⟨B + 35, 0, none⟩) 1 1, .slice (some ⟨B + 36, 0, none⟩) 1 1, .agg #[.slice (some ⟨B + 34, 0, none⟩) 1 1, .slice (some ⟨B + 35, 0, none⟩) 1 1, .slice (some ⟨B + 36, 0, none⟩) 1 1], .slice (some ⟨B + 37, 0, none⟩) 1 1, .slice (some ⟨B + 38, 0, none⟩) 1 1, .slice (some ⟨B + 39, 0, none⟩) 1 1, .agg #[.slice (some ⟨B + 37, 0, none⟩) 1 1, .slice (some ⟨B + 38, 0, none⟩) 1 1, .slice (some ⟨B + 39, 0, none⟩) 1 1], .slice (some ⟨B + 40, 0, none⟩) 1 1, .slice (some ⟨B + 41, 0, none⟩) 1 1, .slice (some ⟨B + 42, 0, none⟩) 1 1, .agg #[.slice (some ⟨B + 40, 0, none⟩) 1 1, .slice (some ⟨B + 41, 0, none⟩) 1 1, .slice (some ⟨B + 42, 0, none⟩) 1 1], .slice (some ⟨B + 43, 0, none⟩) 3 3, .agg #[.slice (some ⟨B + 33, 0, none⟩) 1 1, .slice (some ⟨B + 43, 0, none⟩) 3 3], .slice (some ⟨B + 44, 0, none⟩) 1 1, .slice (some ⟨B + 45, 0, none⟩) 1 1, .slice (some ⟨B + 46, 0, none⟩) 1 1, .slice (some ⟨B + 47, 0, none⟩) 1 1, .agg #[.slice (some ⟨B + 45, 0, none⟩) 1 1, .slice (some ⟨B + 46, 0, none⟩) 1 1, .slice (some ⟨B + 47, 0, none⟩) 1 1], .slice (some ⟨B + 48, 0, none⟩) 1 1, .slice (some ⟨B + 49, 0, none⟩) 1 1, .slice (some ⟨B + 50, 0, none⟩) 1 1, .agg #[.slice (some ⟨B + 48, 0, none⟩) 1 1, .slice (some ⟨B + 49, 0, none⟩) 1 1, .slice (some ⟨B + 50, 0, none⟩) 1 1], .slice (some ⟨B + 51, 0, none⟩) 1 1, .slice (some ⟨B + 52, 0, none⟩) 1 1, .slice (some ⟨B + 53, 0, none⟩) 1 1, .agg #[.slice (some ⟨B + 51, 0, none⟩) 1 1, .slice (some ⟨B + 52, 0, none⟩) 1 1, .slice (some ⟨B + 53, 0, none⟩) 1 1], .slice (some ⟨B + 54, 0, none⟩) 1 1, .slice (some ⟨B + 55, 0, none⟩) 1 1, .slice (some ⟨B + 56, 0, none⟩) 1 1, .agg #[.slice (some ⟨B + 54, 0, none⟩) 1 1, .slice (some ⟨B + 55, 0, none⟩) 1 1, .slice (some ⟨B + 56, 0, none⟩) 1 1], .slice (some ⟨B + 57, 0, none⟩) 4 4, .agg #[.slice (some ⟨B + 44, 0, none⟩) 1 1, .slice (some ⟨B + 57, 0, none⟩) 4 4], .slice (some ⟨B + 58, 0, none⟩) 1 1, .slice (some ⟨B + 59, 0, none⟩) 2 2, .slice (some ⟨B + 60, 0, none⟩) 2 2, .slice (some ⟨B + 61, 0, none⟩) 1 1, .agg #[.slice (some ⟨B + 59, 0, none⟩) 2 2, .slice (some ⟨B + 60, 0, none⟩) 2 2, .slice (some ⟨B + 61, 0, none⟩) 1 1], .slice (some ⟨B + 62, 0, none⟩) 2 2, .slice (some ⟨B + 63, 0, none⟩) 1 1, .slice (some ⟨B + 64, 0, none⟩) 1 1, .agg #[.slice (some ⟨B + 62, 0, none⟩) 2 2, .slice (some ⟨B + 63, 0, none⟩) 1 1, .slice (some ⟨B + 64, 0, none⟩) 1 1], .slice (some ⟨B + 65, 0, none⟩) 1 1, .slice (some ⟨B + 66, 0, none⟩) 1 1, .slice (some ⟨B + 67, 0, none⟩) 1 1, .agg #[.slice (some ⟨B + 65, 0, none⟩) 1 1, .slice (some ⟨B + 66, 0, none⟩) 1 1, .slice (some ⟨B + 67, 0, none⟩) 1 1], .slice (some ⟨B + 68, 0, none⟩) 1 1, .slice (some ⟨B + 69, 0, none⟩) 1 1, .slice (some ⟨B + 70, 0, none⟩) 1 1, .agg #[.slice (some ⟨B + 68, 0, none⟩) 1 1, .slice (some ⟨B + 69, 0, none⟩) 1 1, .slice (some ⟨B + 70, 0, none⟩) 1 1], .slice (some ⟨B + 71, 0, none⟩) 4 4, .agg #[.slice (some ⟨B + 58, 0, none⟩) 1 1, .slice (some ⟨B + 71, 0, none⟩) 4 4], .slice (some ⟨B + 72, 0, none⟩) 1 1, .slice (some ⟨B + 73, 0, none⟩) 2 2, .slice (some ⟨B + 74, 0, none⟩) 2 2, .slice (some ⟨B + 75, 0, none⟩) 1 1, .agg #[.slice (some ⟨B + 73, 0, none⟩) 2 2, .slice (some ⟨B + 74, 0, none⟩) 2 2, .slice (some ⟨B + 75, 0, none⟩) 1 1], .slice (some ⟨B + 76, 0, none⟩) 2 2, .slice (some ⟨B + 77, 0, none⟩) 1 1, .slice (some ⟨B + 78, 0, none⟩) 1 1, .agg #[.slice (some ⟨B + 76, 0, none⟩) 2 2, .slice (some ⟨B + 77, 0, none⟩) 1 1, .slice (some ⟨B + 78, 0, none⟩) 1 1], .slice (some ⟨B + 79, 0, none⟩) 1 1, .slice (some ⟨B + 80, 0, none⟩) 1 1, .slice (some ⟨B + 81, 0, none⟩) 1 1, .agg #[.slice (some ⟨B + 79, 0, none⟩) 1 1, .slice (some ⟨B + 80, 0, none⟩) 1 1, .slice (some ⟨B + 81, 0, none⟩) 1 1], .slice (some ⟨B + 82, 0, none⟩) 1 1, .slice (some ⟨B + 83, 0, none⟩) 1 1, .slice (some ⟨B + 84, 0, none⟩) 1 1, .agg #[.slice (some ⟨B + 82, 0, none⟩) 1 1, .slice (some ⟨B + 83, 0, none⟩) 1 1, .slice (some ⟨B + 84, 0, none⟩) 1 1], .slice (some ⟨B + 85, 0, none⟩) 4 4, .agg #[.slice (some ⟨B + 72, 0, none⟩) 1 1, .slice (some ⟨B + 85, 0, none⟩) 4 4], .slice (some ⟨B + 86, 0, none⟩) 1 1, .slice (some ⟨B + 87, 0, none⟩) 2 2, .slice (some ⟨B + 88, 0, none⟩) 2 2, .slice (some ⟨B + 89, 0, none⟩) 1 1, .agg #[.slice (some ⟨B + 87, 0, none⟩) 2 2, .slice (some ⟨B + 88, 0, none⟩) 2 2, .slice (some ⟨B + 89, 0, none⟩) 1 1], .slice (some ⟨B + 90, 0, none⟩) 2 2, .slice (some ⟨B + 91, 0, none⟩) 2 2, .slice (some ⟨B + 92, 0, none⟩) 1 1, .agg #[.slice (some ⟨B + 90, 0, none⟩) 2 2, .slice (some ⟨B + 91, 0, none⟩) 2 2, .slice (some ⟨B + 92, 0, none⟩) 1 1], .slice (some ⟨B + 93, 0, none⟩) 2 2, .slice (some ⟨B + 94, 0, none⟩) 1 1, .slice (some ⟨B + 95, 0, none⟩) 1 1, .agg #[.slice (some ⟨B + 93, 0, none⟩) 2 2, .slice (some ⟨B + 94, 0, none⟩) 1 1, .slice (some ⟨B + 95, 0, none⟩) 1 1], .slice (some ⟨B + 96, 0, none⟩) 1 1, .slice (some ⟨B + 97, 0, none⟩) 1 1, .slice (some ⟨B + 98, 0, none⟩) 1 1, .agg #[.slice (some ⟨B + 96, 0, none⟩) 1 1, .slice (some ⟨B + 97, 0, none⟩) 1 1, .slice (some ⟨B + 98, 0, none⟩) 1 1], .slice (some ⟨B + 99, 0, none⟩) 1 1, .slice (some ⟨B + 100, 0, none⟩) 1 1, .slice (some ⟨B + 101, 0, none⟩) 1 1, .agg #[.slice (some ⟨B + 99, 0, none⟩) 1 1, .slice (some ⟨B + 100, 0, none⟩) 1 1, .slice (some ⟨B + 101, 0, none⟩) 1 1], .slice (some ⟨B + 102, 0, none⟩) 5 5, .agg #[.slice (some ⟨B + 86, 0, none⟩) 1 1, .slice (some ⟨B + 102, 0, none⟩) 5 5], .slice (some ⟨B + 103, 0, none⟩) 1 1, .slice (some ⟨B + 104, 0, none⟩) 3 3, .slice (some ⟨B + 105, 0, none⟩) 3 3, .slice (some ⟨B + 106, 0, none⟩) 1 1, .agg #[.slice (some ⟨B + 104, 0, none⟩) 3 3, .slice (some ⟨B + 105, 0, none⟩) 3 3, .slice (some ⟨B + 106, 0, none⟩) 1 1], .slice (some ⟨B + 107, 0, none⟩) 3 3, .slice (some ⟨B + 108, 0, none⟩) 2 2, .slice (some ⟨B + 109, 0, none⟩) 1 1, .agg #[.slice (some ⟨B + 107, 0, none⟩) 3 3, .slice (some ⟨B + 108, 0, none⟩) 2 2, .slice (some ⟨B + 109, 0, none⟩) 1 1], .slice (some ⟨B + 110, 0, none⟩) 2 2, .slice (some ⟨B + 111, 0, none⟩) 1 1, .slice (some ⟨B + 112, 0, none⟩) 1 1, .agg #[.slice (some ⟨B + 110, 0, none⟩) 2 2, .slice (some ⟨B + 111, 0, none⟩) 1 1, .slice (some ⟨B + 112, 0, none⟩) 1 1], .slice (some ⟨B + 113, 0, none⟩) 1 1, .slice (some ⟨B + 114, 0, none⟩) 1 1, .slice (some ⟨B + 115, 0, none⟩) 1 1, .agg #[.slice (some ⟨B + 113, 0, none⟩) 1 1, .slice (some ⟨B + 114, 0, none⟩) 1 1, .slice (some ⟨B + 115, 0, none⟩) 1 1], .slice (some ⟨B + 116, 0, none⟩) 1 1, .slice (some ⟨B + 117, 0, none⟩) 1 1, .slice (some ⟨B + 118, 0, none⟩) 1 1, .agg #[.slice (some ⟨B + 116, 0, none⟩) 1 1, .slice (some ⟨B + 117, 0, none⟩) 1 1, .slice (some ⟨B + 118, 0, none⟩) 1 1], .slice (some ⟨B + 119, 0, none⟩) 5 5, .agg #[.slice (some ⟨B + 103, 0, none⟩) 1 1, .slice (some ⟨B + 119, 0, none⟩) 5 5], undef, undef, undef, undef, undef, undef, undef, undef, undef, undef, undef, undef, undef, undef, undef, undef, undef, undef, undef, undef, undef, undef, undef, undef, undef, undef, undef, undef, undef, undef, undef, undef, undef, undef, undef, undef, undef, undef, undef, undef]
def F10 (i : Int) (B : Nat) : List Value := [.int .i64 i, undef, .pointer (some ⟨B, 0, none⟩), undef, .slice (some ⟨B + 1, 0, none⟩) 1 1, .slice (some ⟨B + 2, 0, none⟩) 1 1, .slice (some ⟨B + 3, 0, none⟩) 1 1, .slice (some ⟨B + 4, 0, none⟩) 1 1, .agg #[.slice (some ⟨B + 2, 0, none⟩) 1 1, .slice (some ⟨B + 3, 0, none⟩) 1 1, .slice (some ⟨B + 4, 0, none⟩) 1 1], .slice (some ⟨B + 5, 0, none⟩) 1 1, .agg #[.slice (some ⟨B + 1, 0, none⟩) 1 1, .slice (some ⟨B + 5, 0, none⟩) 1 1], .slice (some ⟨B + 6, 0, none⟩) 1 1, .slice (some ⟨B + 7, 0, none⟩) 1 1, .slice (some ⟨B + 8, 0, none⟩) 1 1, .slice (some ⟨B + 9, 0, none⟩) 1 1, .agg #[.slice (some ⟨B + 7, 0, none⟩) 1 1, .slice (some ⟨B + 8, 0, none⟩) 1 1, .slice (some ⟨B + 9, 0, none⟩) 1 1], .slice (some ⟨B + 10, 0, none⟩) 1 1, .slice (some ⟨B + 11, 0, none⟩) 1 1, .slice (some ⟨B + 12, 0, none⟩) 1 1, .agg #[.slice (some ⟨B + 10, 0, none⟩) 1 1, .slice (some ⟨B + 11, 0, none⟩) 1 1, .slice (some ⟨B + 12, 0, none⟩) 1 1], .slice (some ⟨B + 13, 0, none⟩) 2 2, .agg #[.slice (some ⟨B + 6, 0, none⟩) 1 1, .slice (some ⟨B + 13, 0, none⟩) 2 2], .slice (some ⟨B + 14, 0, none⟩) 1 1, .slice (some ⟨B + 15, 0, none⟩) 1 1, .slice (some ⟨B + 16, 0, none⟩) 1 1, .slice (some ⟨B + 17, 0, none⟩) 1 1, .agg #[.slice (some ⟨B + 15, 0, none⟩) 1 1, .slice (some ⟨B + 16, 0, none⟩) 1 1, .slice (some ⟨B + 17, 0, none⟩) 1 1], .slice (some ⟨B + 18, 0, none⟩) 1 1, .slice (some ⟨B + 19, 0, none⟩) 1 1, .slice (some ⟨B + 20, 0, none⟩) 1 1, .agg #[.slice (some ⟨B + 18, 0, none⟩) 1 1, .slice (some ⟨B + 19, 0, none⟩) 1 1, .slice (some ⟨B + 20, 0, none⟩) 1 1], .slice (some ⟨B + 21, 0, none⟩) 2 2, .agg #[.slice (some ⟨B + 14, 0, none⟩) 1 1, .slice (some ⟨B + 21, 0, none⟩) 2 2], .slice (some ⟨B + 22, 0, none⟩) 1 1, .slice (some ⟨B + 23, 0, none⟩) 1 1, .slice (some ⟨B + 24, 0, none⟩) 1 1, .slice (some ⟨B + 25, 0, none⟩) 1 1, .agg #[.slice (some ⟨B + 23, 0, none⟩) 1 1, .slice (some ⟨B + 24, 0, none⟩) 1 1, .slice (some ⟨B + 25, 0, none⟩) 1 1], .slice (some ⟨B + 26, 0, none⟩) 1 1, .slice (some ⟨B + 27, 0, none⟩) 1 1, .slice (some ⟨B + 28, 0, none⟩) 1 1, .agg #[.slice (some ⟨B + 26, 0, none⟩) 1 1, .slice (some ⟨B + 27, 0, none⟩) 1 1, .slice (some ⟨B + 28, 0, none⟩) 1 1], .slice (some ⟨B + 29, 0, none⟩) 1 1, .slice (some ⟨B + 30, 0, none⟩) 1 1, .slice (some ⟨B + 31, 0, none⟩) 1 1, .agg #[.slice (some ⟨B + 29, 0, none⟩) 1 1, .slice (some ⟨B + 30, 0, none⟩) 1 1, .slice (some ⟨B + 31, 0, none⟩) 1 1], .slice (some ⟨B + 32, 0, none⟩) 3 3, .agg #[.slice (some ⟨B + 22, 0, none⟩) 1 1, .slice (some ⟨B + 32, 0, none⟩) 3 3], .slice (some ⟨B + 33, 0, none⟩) 1 1, .slice (some ⟨B + 34, 0, none⟩) 1 1, .slice (some ⟨B + 35, 0, none⟩) 1 1, .slice (some ⟨B + 36, 0, none⟩) 1 1, .agg #[.slice (some ⟨B + 34, 0, none⟩) 1 1, .slice (some ⟨B + 35, 0, none⟩) 1 1, .slice (some ⟨B + 36, 0, none⟩) 1 1], .slice (some ⟨B + 37, 0, none⟩) 1 1, .slice (some ⟨B + 38, 0, none⟩) 1 1, .slice (some ⟨B + 39, 0, none⟩) 1 1, .agg #[.slice (some ⟨B + 37, 0, none⟩) 1 1, .slice (some ⟨B + 38, 0, none⟩) 1 1, .slice (some ⟨B + 39, 0, none⟩) 1 1], .slice (some ⟨B + 40, 0, none⟩) 1 1, .slice (some ⟨B + 41, 0, none⟩) 1 1, .slice (some ⟨B + 42, 0, none⟩) 1 1, .agg #[.slice (some ⟨B + 40, 0, none⟩) 1 1, .slice (some ⟨B + 41, 0, none⟩) 1 1, .slice (some ⟨B + 42, 0, none⟩) 1 1], .slice (some ⟨B + 43, 0, none⟩) 3 3, .agg #[.slice (some ⟨B + 33, 0, none⟩) 1 1, .slice (some ⟨B + 43, 0, none⟩) 3 3], .slice (some ⟨B + 44, 0, none⟩) 1 1, .slice (some ⟨B + 45, 0, none⟩) 1 1, .slice (some ⟨B + 46, 0, none⟩) 1 1, .slice (some ⟨B + 47, 0, none⟩) 1 1, .agg #[.slice (some ⟨B + 45, 0, none⟩) 1 1, .slice (some ⟨B + 46, 0, none⟩) 1 1, .slice (some ⟨B + 47, 0, none⟩) 1 1], .slice (some ⟨B + 48, 0, none⟩) 1 1, .slice (some ⟨B + 49, 0, none⟩) 1 1, .slice (some ⟨B + 50, 0, none⟩) 1 1, .agg #[.slice (some ⟨B + 48, 0, none⟩) 1 1, .slice (some ⟨B + 49, 0, none⟩) 1 1, .slice (some ⟨B + 50, 0, none⟩) 1 1], .slice (some ⟨B + 51, 0, none⟩) 1 1, .slice (some ⟨B + 52, 0, none⟩) 1 1, .slice (some ⟨B + 53, 0, none⟩) 1 1, .agg #[.slice (some ⟨B + 51, 0, none⟩) 1 1, .slice (some ⟨B + 52, 0, none⟩) 1 1, .slice (some ⟨B + 53, 0, none⟩) 1 1], .slice (some ⟨B + 54, 0, none⟩) 1 1, .slice (some ⟨B + 55, 0, none⟩) 1 1, .slice (some ⟨B + 56, 0, none⟩) 1 1, .agg #[.slice (some ⟨B + 54, 0, none⟩) 1 1, .slice (some ⟨B + 55, 0, none⟩) 1 1, .slice (some ⟨B + 56, 0, none⟩) 1 1], .slice (some ⟨B + 57, 0, none⟩) 4 4, .agg #[.slice (some ⟨B + 44, 0, none⟩) 1 1, .slice (some ⟨B + 57, 0, none⟩) 4 4], .slice (some ⟨B + 58, 0, none⟩) 1 1, .slice (some ⟨B + 59, 0, none⟩) 2 2, .slice (some ⟨B + 60, 0, none⟩) 2 2, .slice (some ⟨B + 61, 0, none⟩) 1 1, .agg #[.slice (some ⟨B + 59, 0, none⟩) 2 2, .slice (some ⟨B + 60, 0, none⟩) 2 2, .slice (some ⟨B + 61, 0, none⟩) 1 1], .slice (some ⟨B + 62, 0, none⟩) 2 2, .slice (some ⟨B + 63, 0, none⟩) 1 1, .slice (some ⟨B + 64, 0, none⟩) 1 1, .agg #[.slice (some ⟨B + 62, 0, none⟩) 2 2, .slice (some ⟨B + 63, 0, none⟩) 1 1, .slice (some ⟨B + 64, 0, none⟩) 1 1], .slice (some ⟨B + 65, 0, none⟩) 1 1, .slice (some ⟨B + 66, 0, none⟩) 1 1, .slice (some ⟨B + 67, 0, none⟩) 1 1, .agg #[.slice (some ⟨B + 65, 0, none⟩) 1 1, .slice (some ⟨B + 66, 0, none⟩) 1 1, .slice (some ⟨B + 67, 0, none⟩) 1 1], .slice (some ⟨B + 68, 0, none⟩) 1 1, .slice (some ⟨B + 69, 0, none⟩) 1 1, .slice (some ⟨B + 70, 0, none⟩) 1 1, .agg #[.slice (some ⟨B + 68, 0, none⟩) 1 1, .slice (some ⟨B + 69, 0, none⟩) 1 1, .slice (some ⟨B + 70, 0, none⟩) 1 1], .slice (some ⟨B + 71, 0, none⟩) 4 4, .agg #[.slice (some ⟨B + 58, 0, none⟩) 1 1, .slice (some ⟨B + 71, 0, none⟩) 4 4], .slice (some ⟨B + 72, 0, none⟩) 1 1, .slice (some ⟨B + 73, 0, none⟩) 2 2, .slice (some ⟨B + 74, 0, none⟩) 2 2, .slice (some ⟨B + 75, 0, none⟩) 1 1, .agg #[.slice (some ⟨B + 73, 0, none⟩) 2 2, .slice (some ⟨B + 74, 0, none⟩) 2 2, .slice (some ⟨B + 75, 0, none⟩) 1 1], .slice (some ⟨B + 76, 0, none⟩) 2 2, .slice (some ⟨B + 77, 0, none⟩) 1 1, .slice (some ⟨B + 78, 0, none⟩) 1 1, .agg #[.slice (some ⟨B + 76, 0, none⟩) 2 2, .slice (some ⟨B + 77, 0, none⟩) 1 1, .slice (some ⟨B + 78, 0, none⟩) 1 1], .slice (some ⟨B + 79, 0, none⟩) 1 1, .slice (some ⟨B + 80, 0, none⟩) 1 1, .slice (some ⟨B + 81, 0, none⟩) 1 1, .agg #[.slice (some ⟨B + 79, 0, none⟩) 1 1, .slice (some ⟨B + 80, 0, none⟩) 1 1, .slice (some ⟨B + 81, 0, none⟩) 1 1], .slice (some ⟨B + 82, 0, none⟩) 1 1, .slice (some ⟨B + 83, 0, none⟩) 1 1, .slice (some ⟨B + 84, 0, none⟩) 1 1, .agg #[.slice (some ⟨B + 82, 0, none⟩) 1 1, .slice (some ⟨B + 83, 0, none⟩) 1 1, .slice (some ⟨B + 84, 0, none⟩) 1 1], .slice (some ⟨B + 85, 0, none⟩) 4 4, .agg #[.slice (some ⟨B + 72, 0, none⟩) 1 1, .slice (some ⟨B + 85, 0, none⟩) 4 4], .slice (some ⟨B + 86, 0, none⟩) 1 1, .slice (some ⟨B + 87, 0, none⟩) 2 2, .slice (some ⟨B + 88, 0, none⟩) 2 2, .slice (some ⟨B + 89, 0, none⟩) 1 1, .agg #[.slice (some ⟨B + 87, 0, none⟩) 2 2, .slice (some ⟨B + 88, 0, none⟩) 2 2, .slice (some ⟨B + 89, 0, none⟩) 1 1], .slice (some ⟨B + 90, 0, none⟩) 2 2, .slice (some ⟨B + 91, 0, none⟩) 2 2, .slice (some ⟨B + 92, 0, none⟩) 1 1, .agg #[.slice (some ⟨B + 90, 0, none⟩) 2 2, .slice (some ⟨B + 91, 0, none⟩) 2 2, .slice (some ⟨B + 92, 0, none⟩) 1 1], .slice (some ⟨B + 93, 0, none⟩) 2 2, .slice (some ⟨B + 94, 0, none⟩) 1 1, .slice (some ⟨B + 95, 0, none⟩) 1 1, .agg #[.slice (some ⟨B + 93, 0, none⟩) 2 2, .slice (some ⟨B + 94, 0, none⟩) 1 1, .slice (some ⟨B + 95, 0, none⟩) 1 1], .slice (some ⟨B + 96, 0, none⟩) 1 1, .slice (some ⟨B + 97, 0, none⟩) 1 1, .slice (some ⟨B + 98, 0, none⟩) 1 1, .agg #[.slice (some ⟨B + 96, 0, none⟩) 1 1, .slice (some ⟨B + 97, 0, none⟩) 1 1, .slice (some ⟨B + 98, 0, none⟩) 1 1], .slice (some ⟨B + 99, 0, none⟩) 1 1, .slice (some ⟨B + 100, 0, none⟩) 1 1, .slice (some ⟨B + 101, 0, none⟩) 1 1, .agg #[.slice (some ⟨B + 99, 0, none⟩) 1 1, .slice (some ⟨B + 100, 0, none⟩) 1 1, .slice (some ⟨B + 101, 0, none⟩) 1 1], .slice (some ⟨B + 102, 0, none⟩) 5 5, .agg #[.slice (some ⟨B + 86, 0, none⟩) 1 1, .slice (some ⟨B + 102, 0, none⟩) 5 5], .slice (some ⟨B + 103, 0, none⟩) 1 1, .slice (some ⟨B + 104, 0, none⟩) 3 3, .slice (some ⟨B + 105, 0, none⟩) 3 3, .slice (some ⟨B + 106, 0, none⟩) 1 1, .agg #[.slice (some ⟨B + 104, 0, none⟩) 3 3, .slice (some ⟨B + 105, 0, none⟩) 3 3, .slice (some ⟨B + 106, 0, none⟩) 1 1], .slice (some ⟨B + 107, 0, none⟩) 3 3, .slice (some ⟨B + 108, 0, none⟩) 2 2, .slice (some ⟨B + 109, 0, none⟩) 1 1, .agg #[.slice (some ⟨B + 107, 0, none⟩) 3 3, .slice (some ⟨B + 108, 0, none⟩) 2 2, .slice (some ⟨B + 109, 0, none⟩) 1 1], .slice (some ⟨B + 110, 0, none⟩) 2 2, .slice (some ⟨B + 111, 0, none⟩) 1 1, .slice (some ⟨B + 112, 0, none⟩) 1 1, .agg #[.slice (some ⟨B + 110, 0, none⟩) 2 2, .slice (some ⟨B + 111, 0, none⟩) 1 1, .slice (some ⟨B + 112, 0, none⟩) 1 1], .slice (some ⟨B + 113, 0, none⟩) 1 1, .slice (some ⟨B + 114, 0, none⟩) 1 1, .slice (some ⟨B + 115, 0, none⟩) 1 1, .agg #[.slice (some ⟨B + 113, 0, none⟩) 1 1, .slice (some ⟨B + 114, 0, none⟩) 1 1, .slice (some ⟨B + 115, 0, none⟩) 1 1], .slice (some ⟨B + 116, 0, none⟩) 1 1, .slice (some ⟨B + 117, 0, none⟩) 1 1, .slice (some ⟨B + 118, 0, none⟩) 1 1, .agg #[.slice (some ⟨B + 116, 0, none⟩) 1 1, .slice (some ⟨B + 117, 0, none⟩) 1 1, .slice (some ⟨B + 118, 0, none⟩) 1 1], .slice (some ⟨B + 119, 0, none⟩) 5 5, .agg #[.slice (some ⟨B + 103, 0, none⟩) 1 1, .slice (some ⟨B + 119, 0, none⟩) 5 5], .slice (some ⟨B + 120, 0, none⟩) 1 1, .slice (some ⟨B + 121, 0, none⟩) 4 4, .slice (some ⟨B + 122, 0, none⟩) 4 4, .slice (some ⟨B + 123, 0, none⟩) 1 1, .agg #[.slice (some ⟨B + 121, 0, none⟩) 4 4, .slice (some ⟨B + 122, 0, none⟩) 4 4, .slice (some ⟨B + 123, 0, none⟩) 1 1], .slice (some ⟨B + 124, 0, none⟩) 4 4, .slice (some ⟨B + 125, 0, none⟩) 4 4, .slice (some ⟨B + 126, 0, none⟩) 1 1, .agg #[.slice (some ⟨B + 124, 0, none⟩) 4 4, .slice (some ⟨B + 125, 0, none⟩) 4 4, .slice (some ⟨B + 126, 0, none⟩) 1 1], .slice (some ⟨B + 127, 0, none⟩) 4 4, .slice (some ⟨B + 128, 0, none⟩) 2 2, .slice (some ⟨B + 129, 0, none⟩) 1 1, .agg #[.slice (some ⟨B + 127, 0, none⟩) 4 4, .slice (some ⟨B + 128, 0, none⟩) 2 2, .slice (some ⟨B + 129, 0, none⟩) 1 1], .slice (some ⟨B + 130, 0, none⟩) 2 2, .slice (some ⟨B + 131, 0, none⟩) 1 1, .slice (some ⟨B + 132, 0, none⟩) 1 1, .agg #[.slice (some ⟨B + 130, 0, none⟩) 2 2, .slice (some ⟨B + 131, 0, none⟩) 1 1, .slice (some ⟨B + 132, 0, none⟩) 1 1], .slice (some ⟨B + 133, 0, none⟩) 1 1, .slice (some ⟨B + 134, 0, none⟩) 1 1, .slice (some ⟨B + 135, 0, none⟩) 1 1, .agg #[.slice (some ⟨B + 133, 0, none⟩) 1 1, .slice (some ⟨B + 134, 0, none⟩) 1 1, .slice (some ⟨B + 135, 0, none⟩) 1 1], .slice (some ⟨B + 136, 0, none⟩) 1 1, .slice (some ⟨B + 137, 0, none⟩) 1 1, .slice (some ⟨B + 138, 0, none⟩) 1 1, .agg #[.slice (some ⟨B + 136, 0, none⟩) 1 1, .slice (some ⟨B + 137, 0, none⟩) 1 1, .slice (some ⟨B + 138, 0, none⟩) 1 1], .slice (some ⟨B + 139, 0, none⟩) 6 6, .agg #[.slice (some ⟨B + 120, 0, none⟩) 1 1, .slice (some ⟨B + 139, 0, none⟩) 6 6], undef, undef, undef, undef, undef, undef, undef, undef, undef, undef, undef, undef, undef]

set_option maxHeartbeats 8000000 in
set_option maxRecDepth 100000 in
theorem known_dig (i : Int) (h0 : -9223372036854775808 ≤ i) (h1 : i ≤ 9223372036854775807) (w : World) :
    Calls Try.prog 20 #[.int .i64 i] w fun e w' => (∃ vg vc, e = .returned (.agg #[vg, vc]) ∧ NatS.rep (Fresh w w') w' [4] [vg] ∧ DStepS.sl.rep (Fresh w w') w' (knownD (knownI i)) [vc]) ∧ Below w.heap.size w w' := by
  have hwc : Hid (w.alloc (.cells #[.slice none 0 0, .slice none 0 0] 55) = revAllocs w [.cells #[.slice none 0 0, .slice none 0 0] 55]) := by show _ = _; rfl
  have hsc : Hid ((w.alloc (.cells #[.slice none 0 0, .slice none 0 0] 55)).heap.size = w.heap.size + 1) := by show _ = _; simp
  go_enter Try.func20, Try.ntmps20
  repeat first | (apply wp_seq_k; intro _ _) | apply wp_block
  apply wp_region_lit
  refine L_alloc ?_
  apply wpList_nil
  go_step
  go_step
  repeat first | (apply wp_seq_k; intro _ _) | apply wp_block
  apply wp_region_lit
  refine L_nat1 _ hwc hsc (j' := 2) rfl ?_
  clear hwc hsc
  intro W hwc hsc
  refine L_nat1 _ hwc hsc (j' := 3) rfl ?_
  clear hwc hsc
  intro W hwc hsc
  refine L_nat1 _ hwc hsc (j' := 4) rfl ?_
  clear hwc hsc
  intro W hwc hsc
  refine L_nat1 _ hwc hsc (j' := 5) rfl ?_
  clear hwc hsc
  intro W hwc hsc
  refine L_step (A0 := (some ⟨w.heap.size + 2, 0, none⟩)) (n0 := 1) (c0 := 1) (A1 := (some ⟨w.heap.size + 3, 0, none⟩)) (n1 := 1) (c1 := 1) (A2 := (some ⟨w.heap.size + 4, 0, none⟩)) (n2 := 1) (c2 := 1) (by kernel_rfl) (by kernel_rfl) (by kernel_rfl) ?_
  refine L_chain1 (p0 := .slice (some ⟨w.heap.size + 2, 0, none⟩) 1 1) (q0 := .slice (some ⟨w.heap.size + 3, 0, none⟩) 1 1) (a0 := .slice (some ⟨w.heap.size + 4, 0, none⟩) 1 1) (by kernel_rfl) hwc hsc (j' := 6) rfl ?_
  clear hwc hsc
  intro W hwc hsc
  refine L_grp (A0 := (some ⟨w.heap.size + 1, 0, none⟩)) (n0 := 1) (c0 := 1) (A1 := (some ⟨w.heap.size + 5, 0, none⟩)) (n1 := 1) (c1 := 1) (by kernel_rfl) (by kernel_rfl) ?_
  refine L_flat (l' := F0 i w.heap.size) (by kernel_rfl) ?_
  refine L_nat1 _ hwc hsc (j' := 7) rfl ?_
  clear hwc hsc
  intro W hwc hsc
  refine L_nat1 _ hwc hsc (j' := 8) rfl ?_
  clear hwc hsc
  intro W hwc hsc
  refine L_nat1 _ hwc hsc (j' := 9) rfl ?_
  clear hwc hsc
  intro W hwc hsc
  refine L_nat1 _ hwc hsc (j' := 10) rfl ?_
  clear hwc hsc
  intro W hwc hsc
  refine L_step (A0 := (some ⟨w.heap.size + 7, 0, none⟩)) (n0 := 1) (c0 := 1) (A1 := (some ⟨w.heap.size + 8, 0, none⟩)) (n1 := 1) (c1 := 1) (A2 := (some ⟨w.heap.size + 9, 0, none⟩)) (n2 := 1) (c2 := 1) (by kernel_rfl) (by kernel_rfl) (by kernel_rfl) ?_
  refine L_nat1 _ hwc hsc (j' := 11) rfl ?_
  clear hwc hsc
  intro W hwc hsc
  refine L_nat1 _ hwc hsc (j' := 12) rfl ?_
  clear hwc hsc
  intro W hwc hsc
  refine L_nat1 _ hwc hsc (j' := 13) rfl ?_
  clear hwc hsc
  intro W hwc hsc
  refine L_step (A0 := (some ⟨w.heap.size + 10, 0, none⟩)) (n0 := 1) (c0 := 1) (A1 := (some ⟨w.heap.size + 11, 0, none⟩)) (n1 := 1) (c1 := 1) (A2 := (some ⟨w.heap.size + 12, 0, none⟩)) (n2 := 1) (c2 := 1) (by kernel_rfl) (by kernel_rfl) (by kernel_rfl) ?_
  refine L_chain2 (p0 := .slice (some ⟨w.heap.size + 7, 0, none⟩) 1 1) (q0 := .slice (some ⟨w.heap.size + 8, 0, none⟩) 1 1) (a0 := .slice (some ⟨w.heap.size + 9, 0, none⟩) 1 1) (p1 := .slice (some ⟨w.heap.size + 10, 0, none⟩) 1 1) (q1 := .slice (some ⟨w.heap.size + 11, 0, none⟩) 1 1) (a1 := .slice (some ⟨w.heap.size + 12, 0, none⟩) 1 1) (by kernel_rfl) (by kernel_rfl) hwc hsc (j' := 14) rfl ?_
  clear hwc hsc
  intro W hwc hsc
  refine L_grp (A0 := (some ⟨w.heap.size + 6, 0, none⟩)) (n0 := 1) (c0 := 1) (A1 := (some ⟨w.heap.size + 13, 0, none⟩)) (n1 := 2) (c1 := 2) (by kernel_rfl) (by kernel_rfl) ?_
  refine L_flat (l' := F1 i w.heap.size) (by kernel_rfl) ?_
  refine L_nat1 _ hwc hsc (j' := 15) rfl ?_
  clear hwc hsc
  intro W hwc hsc
  refine L_nat1 _ hwc hsc (j' := 16) rfl ?_
  clear hwc hsc
  intro W hwc hsc
  refine L_nat1 _ hwc hsc (j' := 17) rfl ?_
  clear hwc hsc
  intro W hwc hsc
  refine L_nat1 _ hwc hsc (j' := 18) rfl ?_
  clear hwc hsc
  intro W hwc hsc
  refine L_step (A0 := (some ⟨w.heap.size + 15, 0, none⟩)) (n0 := 1) (c0 := 1) (A1 := (some ⟨w.heap.size + 16, 0, none⟩)) (n1 := 1) (c1 := 1) (A2 := (some ⟨w.heap.size + 17, 0, none⟩)) (n2 := 1) (c2 := 1) (by kernel_rfl) (by kernel_rfl) (by kernel_rfl) ?_
  refine L_nat1 _ hwc hsc (j' := 19) rfl ?_
  clear hwc hsc
  intro W hwc hsc
  refine L_nat1 _ hwc hsc (j' := 20) rfl ?_
  clear hwc hsc
  intro W hwc hsc
  refine L_nat1 _ hwc hsc (j' := 21) rfl ?_
  clear hwc hsc
  intro W hwc hsc
  refine L_step (A0 := (some ⟨w.heap.size + 18, 0, none⟩)) (n0 := 1) (c0 := 1) (A1 := (some ⟨w.heap.size + 19, 0, none⟩)) (n1 := 1) (c1 := 1) (A2 := (some ⟨w.heap.size + 20, 0, none⟩)) (n2 := 1) (c2 := 1) (by kernel_rfl) (by kernel_rfl) (by kernel_rfl) ?_
  refine L_chain2 (p0 := .slice (some ⟨w.heap.size + 15, 0, none⟩) 1 1) (q0 := .slice (some ⟨w.heap.size + 16, 0, none⟩) 1 1) (a0 := .slice (some ⟨w.heap.size + 17, 0, none⟩) 1 1) (p1 := .slice (some ⟨w.heap.size + 18, 0, none⟩) 1 1) (q1 := .slice (some ⟨w.heap.size + 19, 0, none⟩) 1 1) (a1 := .slice (some ⟨w.heap.size + 20, 0, none⟩) 1 1) (by kernel_rfl) (by kernel_rfl) hwc hsc (j' := 22) rfl ?_
  clear hwc hsc
  intro W hwc hsc
  refine L_grp (A0 := (some ⟨w.heap.size + 14, 0, none⟩)) (n0 := 1) (c0 := 1) (A1 := (some ⟨w.heap.size + 21, 0, none⟩)) (n1 := 2) (c1 := 2) (by kernel_rfl) (by kernel_rfl) ?_
  refine L_flat (l' := F2 i w.heap.size) (by kernel_rfl) ?_
  refine L_nat1 _ hwc hsc (j' := 23) rfl ?_
  clear hwc hsc
  intro W hwc hsc
  refine L_nat1 _ hwc hsc (j' := 24) rfl ?_
  clear hwc hsc
  intro W hwc hsc
  refine L_nat1 _ hwc hsc (j' := 25) rfl ?_
  clear hwc hsc
  intro W hwc hsc
  refine L_nat1 _ hwc hsc (j' := 26) rfl ?_
  clear hwc hsc
  intro W hwc hsc
  refine L_step (A0 := (some ⟨w.heap.size + 23, 0, none⟩)) (n0 := 1) (c0 := 1) (A1 := (some ⟨w.heap.size + 24, 0, none⟩)) (n1 := 1) (c1 := 1) (A2 := (some ⟨w.heap.size + 25, 0, none⟩)) (n2 := 1) (c2 := 1) (by kernel_rfl) (by kernel_rfl) (by kernel_rfl) ?_
  refine L_nat1 _ hwc hsc (j' := 27) rfl ?_
  clear hwc hsc
  intro W hwc hsc
  refine L_nat1 _ hwc hsc (j' := 28) rfl ?_
  clear hwc hsc
  intro W hwc hsc
  refine L_nat1 _ hwc hsc (j' := 29) rfl ?_
  clear hwc hsc
  intro W hwc hsc
  refine L_step (A0 := (some ⟨w.heap.size + 26, 0, none⟩)) (n0 := 1) (c0 := 1) (A1 := (some ⟨w.heap.size + 27, 0, none⟩)) (n1 := 1) (c1 := 1) (A2 := (some ⟨w.heap.size + 28, 0, none⟩)) (n2 := 1) (c2 := 1) (by kernel_rfl) (by kernel_rfl) (by kernel_rfl) ?_
  refine L_nat1 _ hwc hsc (j' := 30) rfl ?_
  clear hwc hsc
  intro W hwc hsc
  refine L_nat1 _ hwc hsc (j' := 31) rfl ?_
  clear hwc hsc
  intro W hwc hsc
  refine L_nat1 _ hwc hsc (j' := 32) rfl ?_
  clear hwc hsc
  intro W hwc hsc
  refine L_step (A0 := (some ⟨w.heap.size + 29, 0, none⟩)) (n0 := 1) (c0 := 1) (A1 := (some ⟨w.heap.size + 30, 0, none⟩)) (n1 := 1) (c1 := 1) (A2 := (some ⟨w.heap.size + 31, 0, none⟩)) (n2 := 1) (c2 := 1) (by kernel_rfl) (by kernel_rfl) (by kernel_rfl) ?_
  refine L_chain3 (p0 := .slice (some ⟨w.heap.size + 23, 0, none⟩) 1 1) (q0 := .slice (some ⟨w.heap.size + 24, 0, none⟩) 1 1) (a0 := .slice (some ⟨w.heap.size + 25, 0, none⟩) 1 1) (p1 := .slice (some ⟨w.heap.size + 26, 0, none⟩) 1 1) (q1 := .slice (some ⟨w.heap.size + 27, 0, none⟩) 1 1) (a1 := .slice (some ⟨w.heap.size + 28, 0, none⟩) 1 1) (p2 := .slice (some ⟨w.heap.size + 29, 0, none⟩) 1 1) (q2 := .slice (some ⟨w.heap.size + 30, 0, none⟩) 1 1) (a2 := .slice (some ⟨w.heap.size + 31, 0, none⟩) 1 1) (by kernel_rfl) (by kernel_rfl) (by kernel_rfl) hwc hsc (j' := 33) rfl ?_
  clear hwc hsc
  intro W hwc hsc
  refine L_grp (A0 := (some ⟨w.heap.size + 22, 0, none⟩)) (n0 := 1) (c0 := 1) (A1 := (some ⟨w.heap.size + 32, 0, none⟩)) (n1 := 3) (c1 := 3) (by kernel_rfl) (by kernel_rfl) ?_
  refine L_flat (l' := F3 i w.heap.size) (by kernel_rfl) ?_
  refine L_nat1 _ hwc hsc (j' := 34) rfl ?_
  clear hwc hsc
  intro W hwc hsc
  refine L_nat1 _ hwc hsc (j' := 35) rfl ?_
  clear hwc hsc
  intro W hwc hsc
  refine L_nat1 _ hwc hsc (j' := 36) rfl ?_
  clear hwc hsc
  intro W hwc hsc
  refine L_nat1 _ hwc hsc (j' := 37) rfl ?_
  clear hwc hsc
  intro W hwc hsc
  refine L_step (A0 := (some ⟨w.heap.size + 34, 0, none⟩)) (n0 := 1) (c0 := 1) (A1 := (some ⟨w.heap.size + 35, 0, none⟩)) (n1 := 1) (c1 := 1) (A2 := (some ⟨w.heap.size + 36, 0, none⟩)) (n2 := 1) (c2 := 1) (by kernel_rfl) (by kernel_rfl) (by kernel_rfl) ?_
  refine L_nat1 _ hwc hsc (j' := 38) rfl ?_
  clear hwc hsc
  intro W hwc hsc
  refine L_nat1 _ hwc hsc (j' := 39) rfl ?_
  clear hwc hsc
  intro W hwc hsc
  refine L_nat1 _ hwc hsc (j' := 40) rfl ?_
  clear hwc hsc
  intro W hwc hsc
  refine L_step (A0 := (some ⟨w.heap.size + 37, 0, none⟩)) (n0 := 1) (c0 := 1) (A1 := (some ⟨w.heap.size + 38, 0, none⟩)) (n1 := 1) (c1 := 1) (A2 := (some ⟨w.heap.size + 39, 0, none⟩)) (n2 := 1) (c2 := 1) (by kernel_rfl) (by kernel_rfl) (by kernel_rfl) ?_
  refine L_nat1 _ hwc hsc (j' := 41) rfl ?_
  clear hwc hsc
  intro W hwc hsc
  refine L_nat1 _ hwc hsc (j' := 42) rfl ?_
  clear hwc hsc
  intro W hwc hsc
  refine L_nat1 _ hwc hsc (j' := 43) rfl ?_
  clear hwc hsc
  intro W hwc hsc
  refine L_step (A0 := (some ⟨w.heap.size + 40, 0, none⟩)) (n0 := 1) (c0 := 1) (A1 := (some ⟨w.heap.size + 41, 0, none⟩)) (n1 := 1) (c1 := 1) (A2 := (some ⟨w.heap.size + 42, 0, none⟩)) (n2 := 1) (c2 := 1) (by kernel_rfl) (by kernel_rfl) (by kernel_rfl) ?_
  refine L_chain3 (p0 := .slice (some ⟨w.heap.size + 34, 0, none⟩) 1 1) (q0 := .slice (some ⟨w.heap.size + 35, 0, none⟩) 1 1) (a0 := .slice (some ⟨w.heap.size + 36, 0, none⟩) 1 1) (p1 := .slice (some ⟨w.heap.size + 37, 0, none⟩) 1 1) (q1 := .slice (some ⟨w.heap.size + 38, 0, none⟩) 1 1) (a1 := .slice (some ⟨w.heap.size + 39, 0, none⟩) 1 1) (p2 := .slice (some ⟨w.heap.size + 40, 0, none⟩) 1 1) (q2 := .slice (some ⟨w.heap.size + 41, 0, none⟩) 1 1) (a2 := .slice (some ⟨w.heap.size + 42, 0, none⟩) 1 1) (by kernel_rfl) (by kernel_rfl) (by kernel_rfl) hwc hsc (j' := 44) rfl ?_
  clear hwc hsc
  intro W hwc hsc
  refine L_grp (A0 := (some ⟨w.heap.size + 33, 0, none⟩)) (n0 := 1) (c0 := 1) (A1 := (some ⟨w.heap.size + 43, 0, none⟩)) (n1 := 3) (c1 := 3) (by kernel_rfl) (by kernel_rfl) ?_
  refine L_flat (l' := F4 i w.heap.size) (by kernel_rfl) ?_
  refine L_nat1 _ hwc hsc (j' := 45) rfl ?_
  clear hwc hsc
  intro W hwc hsc
  refine L_nat1 _ hwc hsc (j' := 46) rfl ?_
  clear hwc hsc
  intro W hwc hsc
  refine L_nat1 _ hwc hsc (j' := 47) rfl ?_
  clear hwc hsc
  intro W hwc hsc
  refine L_nat1 _ hwc hsc (j' := 48) rfl ?_
  clear hwc hsc
  intro W hwc hsc
  refine L_step (A0 := (some ⟨w.heap.size + 45, 0, none⟩)) (n0 := 1) (c0 := 1) (A1 := (some ⟨w.heap.size + 46, 0, none⟩)) (n1 := 1) (c1 := 1) (A2 := (some ⟨w.heap.size + 47, 0, none⟩)) (n2 := 1) (c2 := 1) (by kernel_rfl) (by kernel_rfl) (by kernel_rfl) ?_
  refine L_nat1 _ hwc hsc (j' := 49) rfl ?_
  clear hwc hsc
  intro W hwc hsc
  refine L_nat1 _ hwc hsc (j' := 50) rfl ?_
  clear hwc hsc
  intro W hwc hsc
  refine L_nat1 _ hwc hsc (j' := 51) rfl ?_
  clear hwc hsc
  intro W hwc hsc
  refine L_step (A0 := (some ⟨w.heap.size + 48, 0, none⟩)) (n0 := 1) (c0 := 1) (A1 := (some ⟨w.heap.size + 49, 0, none⟩)) (n1 := 1) (c1 := 1) (A2 := (some ⟨w.heap.size + 50, 0, none⟩)) (n2 := 1) (c2 := 1) (by kernel_rfl) (by kernel_rfl) (by kernel_rfl) ?_
  refine L_nat1 _ hwc hsc (j' := 52) rfl ?_
  clear hwc hsc
  intro W hwc hsc
  refine L_nat1 _ hwc hsc (j' := 53) rfl ?_
  clear hwc hsc
  intro W hwc hsc
  refine L_nat1 _ hwc hsc (j' := 54) rfl ?_
  clear hwc hsc
  intro W hwc hsc
  refine L_step (A0 := (some ⟨w.heap.size + 51, 0, none⟩)) (n0 := 1) (c0 := 1) (A1 := (some ⟨w.heap.size + 52, 0, none⟩)) (n1 := 1) (c1 := 1) (A2 := (some ⟨w.heap.size + 53, 0, none⟩)) (n2 := 1) (c2 := 1) (by kernel_rfl) (by kernel_rfl) (by kernel_rfl) ?_
  refine L_nat1 _ hwc hsc (j' := 55) rfl ?_
  clear hwc hsc
  intro W hwc hsc
  refine L_nat1 _ hwc hsc (j' := 56) rfl ?_
  clear hwc hsc
  intro W hwc hsc
  refine L_nat1 _ hwc hsc (j' := 57) rfl ?_
  clear hwc hsc
  intro W hwc hsc
  refine L_step (A0 := (some ⟨w.heap.size + 54, 0, none⟩)) (n0 := 1) (c0 := 1) (A1 := (some ⟨w.heap.size + 55, 0, none⟩)) (n1 := 1) (c1 := 1) (A2 := (some ⟨w.heap.size + 56, 0, none⟩)) (n2 := 1) (c2 := 1) (by kernel_rfl) (by kernel_rfl) (by kernel_rfl) ?_
  refine L_chain4 (p0 := .slice (some ⟨w.heap.size + 45, 0, none⟩) 1 1) (q0 := .slice (some ⟨w.heap.size + 46, 0, none⟩) 1 1) (a0 := .slice (some ⟨w.heap.size + 47, 0, none⟩) 1 1) (p1 := .slice (some ⟨w.heap.size + 48, 0, none⟩) 1 1) (q1 := .slice (some ⟨w.heap.size + 49, 0, none⟩) 1 1) (a1 := .slice (some ⟨w.heap.size + 50, 0, none⟩) 1 1) (p2 := .slice (some ⟨w.heap.size + 51, 0, none⟩) 1 1) (q2 := .slice (some ⟨w.heap.size + 52, 0, none⟩) 1 1) (a2 := .slice (some ⟨w.heap.size + 53, 0, none⟩) 1 1) (p3 := .slice (some ⟨w.heap.size + 54, 0, none⟩) 1 1) (q3 := .slice (some ⟨w.heap.size + 55, 0, none⟩) 1 1) (a3 := .slice (some ⟨w.heap.size + 56, 0, none⟩) 1 1) (by kernel_rfl) (by kernel_rfl) (by kernel_rfl) (by kernel_rfl) hwc hsc (j' := 58) rfl ?_
  clear hwc hsc
  intro W hwc hsc
  refine L_grp (A0 := (some ⟨w.heap.size + 44, 0, none⟩)) (n0 := 1) (c0 := 1) (A1 := (some ⟨w.heap.size + 57, 0, none⟩)) (n1 := 4) (c1 := 4) (by kernel_rfl) (by kernel_rfl) ?_
  refine L_flat (l' := F5 i w.heap.size) (by kernel_rfl) ?_
  refine L_nat1 _ hwc hsc (j' := 59) rfl ?_
  clear hwc hsc
  intro W hwc hsc
  refine L_nat2 _ _ hwc hsc (j' := 60) rfl ?_
  clear hwc hsc
  intro W hwc hsc
  refine L_nat2 _ _ hwc hsc (j' := 61) rfl ?_
  clear hwc hsc
  intro W hwc hsc
  refine L_nat1 _ hwc hsc (j' := 62) rfl ?_
  clear hwc hsc
  intro W hwc hsc
  refine L_step (A0 := (some ⟨w.heap.size + 59, 0, none⟩)) (n0 := 2) (c0 := 2) (A1 := (some ⟨w.heap.size + 60, 0, none⟩)) (n1 := 2) (c1 := 2) (A2 := (some ⟨w.heap.size + 61, 0, none⟩)) (n2 := 1) (c2 := 1) (by kernel_rfl) (by kernel_rfl) (by kernel_rfl) ?_
  refine L_nat2 _ _ hwc hsc (j' := 63) rfl ?_
  clear hwc hsc
  intro W hwc hsc
  refine L_nat1 _ hwc hsc (j' := 64) rfl ?_
  clear hwc hsc
  intro W hwc hsc
  refine L_nat1 _ hwc hsc (j' := 65) rfl ?_
  clear hwc hsc
  intro W hwc hsc
  refine L_step (A0 := (some ⟨w.heap.size + 62, 0, none⟩)) (n0 := 2) (c0 := 2) (A1 := (some ⟨w.heap.size + 63, 0, none⟩)) (n1 := 1) (c1 := 1) (A2 := (some ⟨w.heap.size + 64, 0, none⟩)) (n2 := 1) (c2 := 1) (by kernel_rfl) (by kernel_rfl) (by kernel_rfl) ?_
  refine L_nat1 _ hwc hsc (j' := 66) rfl ?_
  clear hwc hsc
  intro W hwc hsc
  refine L_nat1 _ hwc hsc (j' := 67) rfl ?_
  clear hwc hsc
  intro W hwc hsc
  refine L_nat1 _ hwc hsc (j' := 68) rfl ?_
  clear hwc hsc
  intro W hwc hsc
  refine L_step (A0 := (some ⟨w.heap.size + 65, 0, none⟩)) (n0 := 1) (c0 := 1) (A1 := (some ⟨w.heap.size + 66, 0, none⟩)) (n1 := 1) (c1 := 1) (A2 := (some ⟨w.heap.size + 67, 0, none⟩)) (n2 := 1) (c2 := 1) (by kernel_rfl) (by kernel_rfl) (by kernel_rfl) ?_
  refine L_nat1 _ hwc hsc (j' := 69) rfl ?_
  clear hwc hsc
  intro W hwc hsc
  refine L_nat1 _ hwc hsc (j' := 70) rfl ?_
  clear hwc hsc
  intro W hwc hsc
  refine L_nat1 _ hwc hsc (j' := 71) rfl ?_
  clear hwc hsc
  intro W hwc hsc
  refine L_step (A0 := (some ⟨w.heap.size + 68, 0, none⟩)) (n0 := 1) (c0 := 1) (A1 := (some ⟨w.heap.size + 69, 0, none⟩)) (n1 := 1) (c1 := 1) (A2 := (some ⟨w.heap.size + 70, 0, none⟩)) (n2 := 1) (c2 := 1) (by kernel_rfl) (by kernel_rfl) (by kernel_rfl) ?_
  refine L_chain4 (p0 := .slice (some ⟨w.heap.size + 59, 0, none⟩) 2 2) (q0 := .slice (some ⟨w.heap.size + 60, 0, none⟩) 2 2) (a0 := .slice (some ⟨w.heap.size + 61, 0, none⟩) 1 1) (p1 := .slice (some ⟨w.heap.size + 62, 0, none⟩) 2 2) (q1 := .slice (some ⟨w.heap.size + 63, 0, none⟩) 1 1) (a1 := .slice (some ⟨w.heap.size + 64, 0, none⟩) 1 1) (p2 := .slice (some ⟨w.heap.size + 65, 0, none⟩) 1 1) (q2 := .slice (some ⟨w.heap.size + 66, 0, none⟩) 1 1) (a2 := .slice (some ⟨w.heap.size + 67, 0, none⟩) 1 1) (p3 := .slice (some ⟨w.heap.size + 68, 0, none⟩) 1 1) (q3 := .slice (some ⟨w.heap.size + 69, 0, none⟩) 1 1) (a3 := .slice (some ⟨w.heap.size + 70, 0, none⟩) 1 1) (by kernel_rfl) (by kernel_rfl) (by kernel_rfl) (by kernel_rfl) hwc hsc (j' := 72) rfl ?_
  clear hwc hsc
  intro W hwc hsc
  refine L_grp (A0 := (some ⟨w.heap.size + 58, 0, none⟩)) (n0 := 1) (c0 := 1) (A1 := (some ⟨w.heap.size + 71, 0, none⟩)) (n1 := 4) (c1 := 4) (by kernel_rfl) (by kernel_rfl) ?_
  refine L_flat (l' := F6 i w.heap.size) (by kernel_rfl) ?_
  refine L_nat1 _ hwc hsc (j' := 73) rfl ?_
  clear hwc hsc
  intro W hwc hsc
  refine L_nat2 _ _ hwc hsc (j' := 74) rfl ?_
  clear hwc hsc
  intro W hwc hsc
  refine L_nat2 _ _ hwc hsc (j' := 75) rfl ?_
  clear hwc hsc
  intro W hwc hsc
  refine L_nat1 _ hwc hsc (j' := 76) rfl ?_
  clear hwc hsc
  intro W hwc hsc
  refine L_step (A0 := (some ⟨w.heap.size + 73, 0, none⟩)) (n0 := 2) (c0 := 2) (A1 := (some ⟨w.heap.size + 74, 0, none⟩)) (n1 := 2) (c1 := 2) (A2 := (some ⟨w.heap.size + 75, 0, none⟩)) (n2 := 1) (c2 := 1) (by kernel_rfl) (by kernel_rfl) (by kernel_rfl) ?_
  refine L_nat2 _ _ hwc hsc (j' := 77) rfl ?_
  clear hwc hsc
  intro W hwc hsc
  refine L_nat1 _ hwc hsc (j' := 78) rfl ?_
  clear hwc hsc
  intro W hwc hsc
  refine L_nat1 _ hwc hsc (j' := 79) rfl ?_
  clear hwc hsc
  intro W hwc hsc
  refine L_step (A0 := (some ⟨w.heap.size + 76, 0, none⟩)) (n0 := 2) (c0 := 2) (A1 := (some ⟨w.heap.size + 77, 0, none⟩)) (n1 := 1) (c1 := 1) (A2 := (some ⟨w.heap.size + 78, 0, none⟩)) (n2 := 1) (c2 := 1) (by kernel_rfl) (by kernel_rfl) (by kernel_rfl) ?_
  refine L_nat1 _ hwc hsc (j' := 80) rfl ?_
  clear hwc hsc
  intro W hwc hsc
  refine L_nat1 _ hwc hsc (j' := 81) rfl ?_
  clear hwc hsc
  intro W hwc hsc
  refine L_nat1 _ hwc hsc (j' := 82) rfl ?_
  clear hwc hsc
  intro W hwc hsc
  refine L_step (A0 := (some ⟨w.heap.size + 79, 0, none⟩)) (n0 := 1) (c0 := 1) (A1 := (some ⟨w.heap.size + 80, 0, none⟩)) (n1 := 1) (c1 := 1) (A2 := (some ⟨w.heap.size + 81, 0, none⟩)) (n2 := 1) (c2 := 1) (by kernel_rfl) (by kernel_rfl) (by kernel_rfl) ?_
  refine L_nat1 _ hwc hsc (j' := 83) rfl ?_
  clear hwc hsc
  intro W hwc hsc
  refine L_nat1 _ hwc hsc (j' := 84) rfl ?_
  clear hwc hsc
  intro W hwc hsc
  refine L_nat1 _ hwc hsc (j' := 85) rfl ?_
  clear hwc hsc
  intro W hwc hsc
  refine L_step (A0 := (some ⟨w.heap.size + 82, 0, none⟩)) (n0 := 1) (c0 := 1) (A1 := (some ⟨w.heap.size + 83, 0, none⟩)) (n1 := 1) (c1 := 1) (A2 := (some ⟨w.heap.size + 84, 0, none⟩)) (n2 := 1) (c2 := 1) (by kernel_rfl) (by kernel_rfl) (by kernel_rfl) ?_
  refine L_chain4 (p0 := .slice (some ⟨w.heap.size + 73, 0, none⟩) 2 2) (q0 := .slice (some ⟨w.heap.size + 74, 0, none⟩) 2 2) (a0 := .slice (some ⟨w.heap.size + 75, 0, none⟩) 1 1) (p1 := .slice (some ⟨w.heap.size + 76, 0, none⟩) 2 2) (q1 := .slice (some ⟨w.heap.size + 77, 0, none⟩) 1 1) (a1 := .slice (some ⟨w.heap.size + 78, 0, none⟩) 1 1) (p2 := .slice (some ⟨w.heap.size + 79, 0, none⟩) 1 1) (q2 := .slice (some ⟨w.heap.size + 80, 0, none⟩) 1 1) (a2 := .slice (some ⟨w.heap.size + 81, 0, none⟩) 1 1) (p3 := .slice (some ⟨w.heap.size + 82, 0, none⟩) 1 1) (q3 := .slice (some ⟨w.heap.size + 83, 0, none⟩) 1 1) (a3 := .slice (some ⟨w.heap.size + 84, 0, none⟩) 1 1) (by kernel_rfl) (by kernel_rfl) (by kernel_rfl) (by kernel_rfl) hwc hsc (j' := 86) rfl ?_
  clear hwc hsc
  intro W hwc hsc
  refine L_grp (A0 := (some ⟨w.heap.size + 72, 0, none⟩)) (n0 := 1) (c0 := 1) (A1 := (some ⟨w.heap.size + 85, 0, none⟩)) (n1 := 4) (c1 := 4) (by kernel_rfl) (by kernel_rfl) ?_
  refine L_flat (l' := F7 i w.heap.size) (by kernel_rfl) ?_
  refine L_nat1 _ hwc hsc (j' := 87) rfl ?_
  clear hwc hsc
  intro W hwc hsc
  refine L_nat2 _ _ hwc hsc (j' := 88) rfl ?_
  clear hwc hsc
  intro W hwc hsc
  refine L_nat2 _ _ hwc hsc (j' := 89) rfl ?_
  clear hwc hsc
  intro W hwc hsc
  refine L_nat1 _ hwc hsc (j' := 90) rfl ?_
  clear hwc hsc
  intro W hwc hsc
  refine L_step (A0 := (some ⟨w.heap.size + 87, 0, none⟩)) (n0 := 2) (c0 := 2) (A1 := (some ⟨w.heap.size + 88, 0, none⟩)) (n1 := 2) (c1 := 2) (A2 := (some ⟨w.heap.size + 89, 0, none⟩)) (n2 := 1) (c2 := 1) (by kernel_rfl) (by kernel_rfl) (by kernel_rfl) ?_
  refine L_nat2 _ _ hwc hsc (j' := 91) rfl ?_
  clear hwc hsc
  intro W hwc hsc
  refine L_nat2 _ _ hwc hsc (j' := 92) rfl ?_
  clear hwc hsc
  intro W hwc hsc
  refine L_nat1 _ hwc hsc (j' := 93) rfl ?_
  clear hwc hsc
  intro W hwc hsc
  refine L_step (A0 := (some ⟨w.heap.size + 90, 0, none⟩)) (n0 := 2) (c0 := 2) (A1 := (some ⟨w.heap.size + 91, 0, none⟩)) (n1 := 2) (c1 := 2) (A2 := (some ⟨w.heap.size + 92, 0, none⟩)) (n2 := 1) (c2 := 1) (by kernel_rfl) (by kernel_rfl) (by kernel_rfl) ?_
  refine L_nat2 _ _ hwc hsc (j' := 94) rfl ?_
  clear hwc hsc
  intro W hwc hsc
  refine L_nat1 _ hwc hsc (j' := 95) rfl ?_
  clear hwc hsc
  intro W hwc hsc
  refine L_nat1 _ hwc hsc (j' := 96) rfl ?_
  clear hwc hsc
  intro W hwc hsc
  refine L_step (A0 := (some ⟨w.heap.size + 93, 0, none⟩)) (n0 := 2) (c0 := 2) (A1 := (some ⟨w.heap.size + 94, 0, none⟩)) (n1 := 1) (c1 := 1) (A2 := (some ⟨w.heap.size + 95, 0, none⟩)) (n2 := 1) (c2 := 1) (by kernel_rfl) (by kernel_rfl) (by kernel_rfl) ?_
  refine L_nat1 _ hwc hsc (j' := 97) rfl ?_
  clear hwc hsc
  intro W hwc hsc
  refine L_nat1 _ hwc hsc (j' := 98) rfl ?_
  clear hwc hsc
  intro W hwc hsc
  refine L_nat1 _ hwc hsc (j' := 99) rfl ?_
  clear hwc hsc
  intro W hwc hsc
  refine L_step (A0 := (some ⟨w.heap.size + 96, 0, none⟩)) (n0 := 1) (c0 := 1) (A1 := (some ⟨w.heap.size + 97, 0, none⟩)) (n1 := 1) (c1 := 1) (A2 := (some ⟨w.heap.size + 98, 0, none⟩)) (n2 := 1) (c2 := 1) (by kernel_rfl) (by kernel_rfl) (by kernel_rfl) ?_
  refine L_nat1 _ hwc hsc (j' := 100) rfl ?_
  clear hwc hsc
  intro W hwc hsc
  refine L_nat1 _ hwc hsc (j' := 101) rfl ?_
  clear hwc hsc
  intro W hwc hsc
  refine L_nat1 _ hwc hsc (j' := 102) rfl ?_
  clear hwc hsc
  intro W hwc hsc
  refine L_step (A0 := (some ⟨w.heap.size + 99, 0, none⟩)) (n0 := 1) (c0 := 1) (A1 := (some ⟨w.heap.size + 100, 0, none⟩)) (n1 := 1) (c1 := 1) (A2 := (some ⟨w.heap.size + 101, 0, none⟩)) (n2 := 1) (c2 := 1) (by kernel_rfl) (by kernel_rfl) (by kernel_rfl) ?_
  refine L_chain5 (p0 := .slice (some ⟨w.heap.size + 87, 0, none⟩) 2 2) (q0 := .slice (some ⟨w.heap.size + 88, 0, none⟩) 2 2) (a0 := .slice (some ⟨w.heap.size + 89, 0, none⟩) 1 1) (p1 := .slice (some ⟨w.heap.size + 90, 0, none⟩) 2 2) (q1 := .slice (some ⟨w.heap.size + 91, 0, none⟩) 2 2) (a1 := .slice (some ⟨w.heap.size + 92, 0, none⟩) 1 1) (p2 := .slice (some ⟨w.heap.size + 93, 0, none⟩) 2 2) (q2 := .slice (some ⟨w.heap.size + 94, 0, none⟩) 1 1) (a2 := .slice (some ⟨w.heap.size + 95, 0, none⟩) 1 1) (p3 := .slice (some ⟨w.heap.size + 96, 0, none⟩) 1 1) (q3 := .slice (some ⟨w.heap.size + 97, 0, none⟩) 1 1) (a3 := .slice (some ⟨w.heap.size + 98, 0, none⟩) 1 1) (p4 := .slice (some ⟨w.heap.size + 99, 0, none⟩) 1 1) (q4 := .slice (some ⟨w.heap.size + 100, 0, none⟩) 1 1) (a4 := .slice (some ⟨w.heap.size + 101, 0, none⟩) 1 1) (by kernel_rfl) (by kernel_rfl) (by kernel_rfl) (by kernel_rfl) (by kernel_rfl) hwc hsc (j' := 103) rfl ?_
  clear hwc hsc
  intro W hwc hsc
  refine L_grp (A0 := (some ⟨w.heap.size + 86, 0, none⟩)) (n0 := 1) (c0 := 1) (A1 := (some ⟨w.heap.size + 102, 0, none⟩)) (n1 := 5) (c1 := 5) (by kernel_rfl) (by kernel_rfl) ?_
  refine L_flat (l' := F8 i w.heap.size) (by kernel_rfl) ?_
  refine L_nat1 _ hwc hsc (j' := 104) rfl ?_
  clear hwc hsc
  intro W hwc hsc
  refine L_nat3 _ _ _ hwc hsc (j' := 105) rfl ?_
  clear hwc hsc
  intro W hwc hsc
  refine L_nat3 _ _ _ hwc hsc (j' := 106) rfl ?_
  clear hwc hsc
  intro W hwc hsc
  refine L_nat1 _ hwc hsc (j' := 107) rfl ?_
  clear hwc hsc
  intro W hwc hsc
  refine L_step (A0 := (some ⟨w.heap.size + 104, 0, none⟩)) (n0 := 3) (c0 := 3) (A1 := (some ⟨w.heap.size + 105, 0, none⟩)) (n1 := 3) (c1 := 3) (A2 := (some ⟨w.heap.size + 106, 0, none⟩)) (n2 := 1) (c2 := 1) (by kernel_rfl) (by kernel_rfl) (by kernel_rfl) ?_
  refine L_nat3 _ _ _ hwc hsc (j' := 108) rfl ?_
  clear hwc hsc
  intro W hwc hsc
  refine L_nat2 _ _ hwc hsc (j' := 109) rfl ?_
  clear hwc hsc
  intro W hwc hsc
  refine L_nat1 _ hwc hsc (j' := 110) rfl ?_
  clear hwc hsc
  intro W hwc hsc
  refine L_step (A0 := (some ⟨w.heap.size + 107, 0, none⟩)) (n0 := 3) (c0 := 3) (A1 := (some ⟨w.heap.size + 108, 0, none⟩)) (n1 := 2) (c1 := 2) (A2 := (some ⟨w.heap.size + 109, 0, none⟩)) (n2 := 1) (c2 := 1) (by kernel_rfl) (by kernel_rfl) (by kernel_rfl) ?_
  refine L_nat2 _ _ hwc hsc (j' := 111) rfl ?_
  clear hwc hsc
  intro W hwc hsc
  refine L_nat1 _ hwc hsc (j' := 112) rfl ?_
  clear hwc hsc
  intro W hwc hsc
  refine L_nat1 _ hwc hsc (j' := 113) rfl ?_
  clear hwc hsc
  intro W hwc hsc
  refine L_step (A0 := (some ⟨w.heap.size + 110, 0, none⟩)) (n0 := 2) (c0 := 2) (A1 := (some ⟨w.heap.size + 111, 0, none⟩)) (n1 := 1) (c1 := 1) (A2 := (some ⟨w.heap.size + 112, 0, none⟩)) (n2 := 1) (c2 := 1) (by kernel_rfl) (by kernel_rfl) (by kernel_rfl) ?_
  refine L_nat1 _ hwc hsc (j' := 114) rfl ?_
  clear hwc hsc
  intro W hwc hsc
  refine L_nat1 _ hwc hsc (j' := 115) rfl ?_
  clear hwc hsc
  intro W hwc hsc
  refine L_nat1 _ hwc hsc (j' := 116) rfl ?_
  clear hwc hsc
  intro W hwc hsc
  refine L_step (A0 := (some ⟨w.heap.size + 113, 0, none⟩)) (n0 := 1) (c0 := 1) (A1 := (some ⟨w.heap.size + 114, 0, none⟩)) (n1 := 1) (c1 := 1) (A2 := (some ⟨w.heap.size + 115, 0, none⟩)) (n2 := 1) (c2 := 1) (by kernel_rfl) (by kernel_rfl) (by kernel_rfl) ?_
  refine L_nat1 _ hwc hsc (j' := 117) rfl ?_
  clear hwc hsc
  intro W hwc hsc
  refine L_nat1 _ hwc hsc (j' := 118) rfl ?_
  clear hwc hsc
  intro W hwc hsc
  refine L_nat1 _ hwc hsc (j' := 119) rfl ?_
  clear hwc hsc
  intro W hwc hsc
  refine L_step (A0 := (some ⟨w.heap.size + 116, 0, none⟩)) (n0 := 1) (c0 := 1) (A1 := (some ⟨w.heap.size + 117, 0, none⟩)) (n1 := 1) (c1 := 1) (A2 := (some ⟨w.heap.size + 118, 0, none⟩)) (n2 := 1) (c2 := 1) (by kernel_rfl) (by kernel_rfl) (by kernel_rfl) ?_
  refine L_chain5 (p0 := .slice (some ⟨w.heap.size + 104, 0, none⟩) 3 3) (q0 := .slice (some ⟨w.heap.size + 105, 0, none⟩) 3 3) (a0 := .slice (some ⟨w.heap.size + 106, 0, none⟩) 1 1) (p1 := .slice (some ⟨w.heap.size + 107, 0, none⟩) 3 3) (q1 := .slice (some ⟨w.heap.size + 108, 0, none⟩) 2 2) (a1 := .slice (some ⟨w.heap.size + 109, 0, none⟩) 1 1) (p2 := .slice (some ⟨w.heap.size + 110, 0, none⟩) 2 2) (q2 := .slice (some ⟨w.heap.size + 111, 0, none⟩) 1 1) (a2 := .slice (some ⟨w.heap.size + 112, 0, none⟩) 1 1) (p3 := .slice (some ⟨w.heap.size + 113, 0, none⟩) 1 1) (q3 := .slice (some ⟨w.heap.size + 114, 0, none⟩) 1 1) (a3 := .slice (some ⟨w.heap.size + 115, 0, none⟩) 1 1) (p4 := .slice (some ⟨w.heap.size + 116, 0, none⟩) 1 1) (q4 := .slice (some ⟨w.heap.size + 117, 0, none⟩) 1 1) (a4 := .slice (some ⟨w.heap.size + 118, 0, none⟩) 1 1) (by kernel_rfl) (by kernel_rfl) (by kernel_rfl) (by kernel_rfl) (by kernel_rfl) hwc hsc (j' := 120) rfl ?_
  clear hwc hsc
  intro W hwc hsc
  refine L_grp (A0 := (some ⟨w.heap.size + 103, 0, none⟩)) (n0 := 1) (c0 := 1) (A1 := (some ⟨w.heap.size + 119, 0, none⟩)) (n1 := 5) (c1 := 5) (by kernel_rfl) (by kernel_rfl) ?_
  refine L_flat (l' := F9 i w.heap.size) (by kernel_rfl) ?_
  refine L_nat1 _ hwc hsc (j' := 121) rfl ?_
  clear hwc hsc
  intro W hwc hsc
  refine L_nat4 _ _ _ _ hwc hsc (j' := 122) rfl ?_
  clear hwc hsc
  intro W hwc hsc
  refine L_nat4 _ _ _ _ hwc hsc (j' := 123) rfl ?_
  clear hwc hsc
  intro W hwc hsc
  refine L_nat1 _ hwc hsc (j' := 124) rfl ?_
  clear hwc hsc
  intro W hwc hsc
  refine L_step (A0 := (some ⟨w.heap.size + 121, 0, none⟩)) (n0 := 4) (c0 := 4) (A1 := (some ⟨w.heap.size + 122, 0, none⟩)) (n1 := 4) (c1 := 4) (A2 := (some ⟨w.heap.size + 123, 0, none⟩)) (n2 := 1) (c2 := 1) (by kernel_rfl) (by kernel_rfl) (by kernel_rfl) ?_
  refine L_nat4 _ _ _ _ hwc hsc (j' := 125) rfl ?_
  clear hwc hsc
  intro W hwc hsc
  refine L_nat4 _ _ _ _ hwc hsc (j' := 126) rfl ?_
  clear hwc hsc
  intro W hwc hsc
  refine L_nat1 _ hwc hsc (j' := 127) rfl ?_
  clear hwc hsc
  intro W hwc hsc
  refine L_step (A0 := (some ⟨w.heap.size + 124, 0, none⟩)) (n0 := 4) (c0 := 4) (A1 := (some ⟨w.heap.size + 125, 0, none⟩)) (n1 := 4) (c1 := 4) (A2 := (some ⟨w.heap.size + 126, 0, none⟩)) (n2 := 1) (c2 := 1) (by kernel_rfl) (by kernel_rfl) (by kernel_rfl) ?_
  refine L_nat4 _ _ _ _ hwc hsc (j' := 128) rfl ?_
  clear hwc hsc
  intro W hwc hsc
  refine L_nat2 _ _ hwc hsc (j' := 129) rfl ?_
  clear hwc hsc
  intro W hwc hsc
  refine L_nat1 _ hwc hsc (j' := 130) rfl ?_
  clear hwc hsc
  intro W hwc hsc
  refine L_step (A0 := (some ⟨w.heap.size + 127, 0, none⟩)) (n0 := 4) (c0 := 4) (A1 := (some ⟨w.heap.size + 128, 0, none⟩)) (n1 := 2) (c1 := 2) (A2 := (some ⟨w.heap.size + 129, 0, none⟩)) (n2 := 1) (c2 := 1) (by kernel_rfl) (by kernel_rfl) (by kernel_rfl) ?_
  refine L_nat2 _ _ hwc hsc (j' := 131) rfl ?_
  clear hwc hsc
  intro W hwc hsc
  refine L_nat1 _ hwc hsc (j' := 132) rfl ?_
  clear hwc hsc
  intro W hwc hsc
  refine L_nat1 _ hwc hsc (j' := 133) rfl ?_
  clear hwc hsc
  intro W hwc hsc
  refine L_step (A0 := (some ⟨w.heap.size + 130, 0, none⟩)) (n0 := 2) (c0 := 2) (A1 := (some ⟨w.heap.size + 131, 0, none⟩)) (n1 := 1) (c1 := 1) (A2 := (some ⟨w.heap.size + 132, 0, none⟩)) (n2 := 1) (c2 := 1) (by kernel_rfl) (by kernel_rfl) (by kernel_rfl) ?_
  refine L_nat1 _ hwc hsc (j' := 134) rfl ?_
  clear hwc hsc
  intro W hwc hsc
  refine L_nat1 _ hwc hsc (j' := 135) rfl ?_
  clear hwc hsc
  intro W hwc hsc
  refine L_nat1 _ hwc hsc (j' := 136) rfl ?_
  clear hwc hsc
  intro W hwc hsc
  refine L_step (A0 := (some ⟨w.heap.size + 133, 0, none⟩)) (n0 := 1) (c0 := 1) (A1 := (some ⟨w.heap.size + 134, 0, none⟩)) (n1 := 1) (c1 := 1) (A2 := (some ⟨w.heap.size + 135, 0, none⟩)) (n2 := 1) (c2 := 1) (by kernel_rfl) (by kernel_rfl) (by kernel_rfl) ?_
  refine L_nat1 _ hwc hsc (j' := 137) rfl ?_
  clear hwc hsc
  intro W hwc hsc
  refine L_nat1 _ hwc hsc (j' := 138) rfl ?_
  clear hwc hsc
  intro W hwc hsc
  refine L_nat1 _ hwc hsc (j' := 139) rfl ?_
  clear hwc hsc
  intro W hwc hsc
  refine L_step (A0 := (some ⟨w.heap.size + 136, 0, none⟩)) (n0 := 1) (c0 := 1) (A1 := (some ⟨w.heap.size + 137, 0, none⟩)) (n1 := 1) (c1 := 1) (A2 := (some ⟨w.heap.size + 138, 0, none⟩)) (n2 := 1) (c2 := 1) (by kernel_rfl) (by kernel_rfl) (by kernel_rfl) ?_
  refine L_chain6 (p0 := .slice (some ⟨w.heap.size + 121, 0, none⟩) 4 4) (q0 := .slice (some ⟨w.heap.size + 122, 0, none⟩) 4 4) (a0 := .slice (some ⟨w.heap.size + 123, 0, none⟩) 1 1) (p1 := .slice (some ⟨w.heap.size + 124, 0, none⟩) 4 4) (q1 := .slice (some ⟨w.heap.size + 125, 0, none⟩) 4 4) (a1 := .slice (some ⟨w.heap.size + 126, 0, none⟩) 1 1) (p2 := .slice (some ⟨w.heap.size + 127, 0, none⟩) 4 4) (q2 := .slice (some ⟨w.heap.size + 128, 0, none⟩) 2 2) (a2 := .slice (some ⟨w.heap.size + 129, 0, none⟩) 1 1) (p3 := .slice (some ⟨w.heap.size + 130, 0, none⟩) 2 2) (q3 := .slice (some ⟨w.heap.size + 131, 0, none⟩) 1 1) (a3 := .slice (some ⟨w.heap.size + 132, 0, none⟩) 1 1) (p4 := .slice (some ⟨w.heap.size + 133, 0, none⟩) 1 1) (q4 := .slice (some ⟨w.heap.size + 134, 0, none⟩) 1 1) (a4 := .slice (some ⟨w.heap.size + 135, 0, none⟩) 1 1) (p5 := .slice (some ⟨w.heap.size + 136, 0, none⟩) 1 1) (q5 := .slice (some ⟨w.heap.size + 137, 0, none⟩) 1 1) (a5 := .slice (some ⟨w.heap.size + 138, 0, none⟩) 1 1) (by kernel_rfl) (by kernel_rfl) (by kernel_rfl) (by kernel_rfl) (by kernel_rfl) (by kernel_rfl) hwc hsc (j' := 140) rfl ?_
  clear hwc hsc
  intro W hwc hsc
  refine L_grp (A0 := (some ⟨w.heap.size + 120, 0, none⟩)) (n0 := 1) (c0 := 1) (A1 := (some ⟨w.heap.size + 139, 0, none⟩)) (n1 := 6) (c1 := 6) (by kernel_rfl) (by kernel_rfl) ?_
  refine L_flat (l' := F10 i w.heap.size) (by kernel_rfl) ?_
  refine L_all (g0 := .slice (some ⟨w.heap.size + 1, 0, none⟩) 1 1) (c0 := .slice (some ⟨w.heap.size + 5, 0, none⟩) 1 1) (g1 := .slice (some ⟨w.heap.size + 6, 0, none⟩) 1 1) (c1 := .slice (some ⟨w.heap.size + 13, 0, none⟩) 2 2) (g2 := .slice (some ⟨w.heap.size + 14, 0, none⟩) 1 1) (c2 := .slice (some ⟨w.heap.size + 21, 0, none⟩) 2 2) (g3 := .slice (some ⟨w.heap.size + 22, 0, none⟩) 1 1) (c3 := .slice (some ⟨w.heap.size + 32, 0, none⟩) 3 3) (g4 := .slice (some ⟨w.heap.size + 33, 0, none⟩) 1 1) (c4 := .slice (some ⟨w.heap.size + 43, 0, none⟩) 3 3) (g5 := .slice (some ⟨w.heap.size + 44, 0, none⟩) 1 1) (c5 := .slice (some ⟨w.heap.size + 57, 0, none⟩) 4 4) (g6 := .slice (some ⟨w.heap.size + 58, 0, none⟩) 1 1) (c6 := .slice (some ⟨w.heap.size + 71, 0, none⟩) 4 4) (g7 := .slice (some ⟨w.heap.size + 72, 0, none⟩) 1 1) (c7 := .slice (some ⟨w.heap.size + 85, 0, none⟩) 4 4) (g8 := .slice (some ⟨w.heap.size + 86, 0, none⟩) 1 1) (c8 := .slice (some ⟨w.heap.size + 102, 0, none⟩) 5 5) (g9 := .slice (some ⟨w.heap.size + 103, 0, none⟩) 1 1) (c9 := .slice (some ⟨w.heap.size + 119, 0, none⟩) 5 5) (g10 := .slice (some ⟨w.heap.size + 120, 0, none⟩) 1 1) (c10 := .slice (some ⟨w.heap.size + 139, 0, none⟩) 6 6) (by kernel_rfl) (by kernel_rfl) (by kernel_rfl) (by kernel_rfl) (by kernel_rfl) (by kernel_rfl) (by kernel_rfl) (by kernel_rfl) (by kernel_rfl) (by kernel_rfl) (by kernel_rfl) hwc hsc (j' := 141) rfl ?_
  clear hwc hsc
  intro W hwc hsc
  refine L_flat (l' := [.int .i64 i, undef, .pointer (some ⟨w.heap.size, 0, none⟩), undef, .slice (some ⟨w.heap.size + 1, 0, none⟩) 1 1, .slice (some ⟨w.heap.size + 2, 0, none⟩) 1 1, .slice (some ⟨w.heap.size + 3, 0, none⟩) 1 1, .slice (some ⟨w.heap.size + 4, 0, none⟩) 1 1, .agg #[.slice (some ⟨w.heap.size + 2, 0, none⟩) 1 1, .slice (some ⟨w.heap.size + 3, 0, none⟩) 1 1, .slice (some ⟨w.heap.size + 4, 0, none⟩) 1 1], .slice (some ⟨w.heap.size + 5, 0, none⟩) 1 1, .agg #[.slice (some ⟨w.heap.size + 1, 0, none⟩) 1 1, .slice (some ⟨w.heap.size + 5, 0, none⟩) 1 1], .slice (some ⟨w.heap.size + 6, 0, none⟩) 1 1, .slice (some ⟨w.heap.size + 7, 0, none⟩) 1 1, .slice (some ⟨w.heap.size + 8, 0, none⟩) 1 1, .slice (some ⟨w.heap.size + 9, 0, none⟩) 1 1, .agg #[.slice (some ⟨w.heap.size + 7, 0, none⟩) 1 1, .slice (some ⟨w.heap.size + 8, 0, none⟩) 1 1, .slice (some ⟨w.heap.size + 9, 0, none⟩) 1 1], .slice (some ⟨w.heap.size + 10, 0, none⟩) 1 1, .slice (some ⟨w.heap.size + 11, 0, none⟩) 1 1, .slice (some ⟨w.heap.size + 12, 0, none⟩) 1 1, .agg #[.slice (some ⟨w.heap.size + 10, 0, none⟩) 1 1, .slice (some ⟨w.heap.size + 11, 0, none⟩) 1 1, .slice (some ⟨w.heap.size + 12, 0, none⟩) 1 1], .slice (some ⟨w.heap.size + 13, 0, none⟩) 2 2, .agg #[.slice (some ⟨w.heap.size + 6, 0, none⟩) 1 1, .slice (some ⟨w.heap.size + 13, 0, none⟩) 2 2], .slice (some ⟨w.heap.size + 14, 0, none⟩) 1 1, .slice (some ⟨w.heap.size + 15, 0, none⟩) 1 1, .slice (some ⟨w.heap.size + 16, 0, none⟩) 1 1, .slice (some ⟨w.heap.size + 17, 0, none⟩) 1 1, .agg #[.slice (some ⟨w.heap.size + 15, 0, none⟩) 1 1, .slice (some ⟨w.heap.size + 16, 0, none⟩) 1 1, .slice (some ⟨w.heap.size + 17, 0, none⟩) 1 1], .slice (some ⟨w.heap.size + 18, 0, none⟩) 1 1, .slice (some ⟨w.heap.size + 19, 0, none⟩) 1 1, .slice (some ⟨w.heap.size + 20, 0, none⟩) 1 1, .agg #[.slice (some ⟨w.heap.size + 18, 0, none⟩) 1 1, .slice (some ⟨w.heap.size + 19, 0, none⟩) 1 1, .slice (some ⟨w.heap.size + 20, 0, none⟩) 1 1], .slice (some ⟨w.heap.size + 21, 0, none⟩) 2 2, .agg #[.slice (some ⟨w.heap.size + 14, 0, none⟩) 1 1, .slice (some ⟨w.heap.size + 21, 0, none⟩) 2 2], .slice (some ⟨w.heap.size + 22, 0, none⟩) 1 1, .slice (some ⟨w.heap.size + 23, 0, none⟩) 1 1, .slice (some ⟨w.heap.size + 24, 0, none⟩) 1 1, .slice (some ⟨w.heap.size + 25, 0, none⟩) 1 1, .agg #[.slice (some ⟨w.heap.size + 23, 0, none⟩) 1 1, .slice (some ⟨w.heap.size + 24, 0, none⟩) 1 1, .slice (some ⟨w.heap.size + 25, 0, none⟩) 1 1], .slice (some ⟨w.heap.size + 26, 0, none⟩) 1 1, .slice (some ⟨w.heap.size + 27, 0, none⟩) 1 1, .slice (some ⟨w.heap.size + 28, 0, none⟩) 1 1, .agg #[.slice (some ⟨w.heap.size + 26, 0, none⟩) 1 1, .slice (some ⟨w.heap.size + 27, 0, none⟩) 1 1, .slice (some ⟨w.heap.size + 28, 0, none⟩) 1 1], .slice (some ⟨w.heap.size + 29, 0, none⟩) 1 1, .slice (some ⟨w.heap.size + 30, 0, none⟩) 1 1, .slice (some ⟨w.heap.size + 31, 0, none⟩) 1 1, .agg #[.slice (some ⟨w.heap.size + 29, 0, none⟩) 1 1, .slice (some ⟨w.heap.size + 30, 0, none⟩) 1 1, .slice (some ⟨w.heap.size + 31, 0, none⟩) 1 1], .slice (some ⟨w.heap.size + 32, 0, none⟩) 3 3, .agg #[.slice (some ⟨w.heap.size + 22, 0, none⟩) 1 1, .slice (some ⟨w.heap.size + 32, 0, none⟩) 3 3], .slice (some ⟨w.heap.size + 33, 0, none⟩) 1 1, .slice (some ⟨w.heap.size + 34, 0, none⟩) 1 1, .slice (some ⟨w.heap.size + 35, 0, none⟩) 1 1, .slice (some ⟨w.heap.size + 36, 0, none⟩) 1 1, .agg #[.slice (some ⟨w.heap.size + 34, 0, none⟩) 1 1, .slice (some ⟨w.heap.size + 35, 0, none⟩) 1 1, .slice (some ⟨w.heap.size + 36, 0, none⟩) 1 1], .slice (some ⟨w.heap.size + 37, 0, none⟩) 1 1, .slice (some ⟨w.heap.size + 38, 0, none⟩) 1 1, .slice (some ⟨w.heap.size + 39, 0, none⟩) 1 1, .agg #[.slice (some ⟨w.heap.size + 37, 0, none⟩) 1 1, .slice (some ⟨w.heap.size + 38, 0, none⟩) 1 1, .slice (some ⟨w.heap.size + 39, 0, none⟩) 1 1], .slice (some ⟨w.heap.size + 40, 0, none⟩) 1 1, .slice (some ⟨w.heap.size + 41, 0, none⟩) 1 1, .slice (some ⟨w.heap.size + 42, 0, none⟩) 1 1, .agg #[.slice (some ⟨w.heap.size + 40, 0, none⟩) 1 1, .slice (some ⟨w.heap.size + 41, 0, none⟩) 1 1, .slice (some ⟨w.heap.size + 42, 0, none⟩) 1 1], .slice (some ⟨w.heap.size + 43, 0, none⟩) 3 3, .agg #[.slice (some ⟨w.heap.size + 33, 0, none⟩) 1 1, .slice (some ⟨w.heap.size + 43, 0, none⟩) 3 3], .slice (some ⟨w.heap.size + 44, 0, none⟩) 1 1, .slice (some ⟨w.heap.size + 45, 0, none⟩) 1 1, .slice (some ⟨w.heap.size + 46, 0, none⟩) 1 1, .slice (some ⟨w.heap.size + 47, 0, none⟩) 1 1, .agg #[.slice (some ⟨w.heap.size + 45, 0, none⟩) 1 1, .slice (some ⟨w.heap.size + 46, 0, none⟩) 1 1, .slice (some ⟨w.heap.size + 47, 0, none⟩) 1 1], .slice (some ⟨w.heap.size + 48, 0, none⟩) 1 1, .slice (some ⟨w.heap.size + 49, 0, none⟩) 1 1, .slice (some ⟨w.heap.size + 50, 0, none⟩) 1 1, .agg #[.slice (some ⟨w.heap.size + 48, 0, none⟩) 1 1, .slice (some ⟨w.heap.size + 49, 0, none⟩) 1 1, .slice (some ⟨w.heap.size + 50, 0, none⟩) 1 1], .slice (some ⟨w.heap.size + 51, 0, none⟩) 1 1, .slice (some ⟨w.heap.size + 52, 0, none⟩) 1 1, .slice (some ⟨w.heap.size + 53, 0, none⟩) 1 1, .agg #[.slice (some ⟨w.heap.size + 51, 0, none⟩) 1 1, .slice (some ⟨w.heap.size + 52, 0, none⟩) 1 1, .slice (some ⟨w.heap.size + 53, 0, none⟩) 1 1], .slice (some ⟨w.heap.size + 54, 0, none⟩) 1 1, .slice (some ⟨w.heap.size + 55, 0, none⟩) 1 1, .slice (some ⟨w.heap.size + 56, 0, none⟩) 1 1, .agg #[.slice (some ⟨w.heap.size + 54, 0, none⟩) 1 1, .slice (some ⟨w.heap.size + 55, 0, none⟩) 1 1, .slice (some ⟨w.heap.size + 56, 0, none⟩) 1 1], .slice (some ⟨w.heap.size + 57, 0, none⟩) 4 4, .agg #[.slice (some ⟨w.heap.size + 44, 0, none⟩) 1 1, .slice (some ⟨w.heap.size + 57, 0, none⟩) 4 4], .slice (some ⟨w.heap.size + 58, 0, none⟩) 1 1, .slice (some ⟨w.heap.size + 59, 0, none⟩) 2 2, .slice (some ⟨w.heap.size + 60, 0, none⟩) 2 2, .slice (some ⟨w.heap.size + 61, 0, none⟩) 1 1, .agg #[.slice (some ⟨w.heap.size + 59, 0, none⟩) 2 2, .slice (some ⟨w.heap.size + 60, 0, none⟩) 2 2, .slice (some ⟨w.heap.size + 61, 0, none⟩) 1 1], .slice (some ⟨w.heap.size + 62, 0, none⟩) 2 2, .slice (some ⟨w.heap.size + 63, 0, none⟩) 1 1, .slice (some ⟨w.heap.size + 64, 0, none⟩) 1 1, .agg #[.slice (some ⟨w.heap.size + 62, 0, none⟩) 2 2, .slice (some ⟨w.heap.size + 63, 0, none⟩) 1 1, .slice (some ⟨w.heap.size + 64, 0, none⟩) 1 1], .slice (some ⟨w.heap.size + 65, 0, none⟩) 1 1, .slice (some ⟨w.heap.size + 66, 0, none⟩) 1 1, .slice (some ⟨w.heap.size + 67, 0, none⟩) 1 1, .agg #[.slice (some ⟨w.heap.size + 65, 0, none⟩) 1 1, .slice (some ⟨w.heap.size + 66, 0, none⟩) 1 1, .slice (some ⟨w.heap.size + 67, 0, none⟩) 1 1], .slice (some ⟨w.heap.size + 68, 0, none⟩) 1 1, .slice (some ⟨w.heap.size + 69, 0, none⟩) 1 1, .slice (some ⟨w.heap.size + 70, 0, none⟩) 1 1, .agg #[.slice (some ⟨w.heap.size + 68, 0, none⟩) 1 1, .slice (some ⟨w.heap.size + 69, 0, none⟩) 1 1, .slice (some ⟨w.heap.size + 70, 0, none⟩) 1 1], .slice (some ⟨w.heap.size + 71, 0, none⟩) 4 4, .agg #[.slice (some ⟨w.heap.size + 58, 0, none⟩) 1 1, .slice (some ⟨w.heap.size + 71, 0, none⟩) 4 4], .slice (some ⟨w.heap.size + 72, 0, none⟩) 1 1, .slice (some ⟨w.heap.size + 73, 0, none⟩) 2 2, .slice (some ⟨w.heap.size + 74, 0, none⟩) 2 2, .slice (some ⟨w.heap.size + 75, 0, none⟩) 1 1, .agg #[.slice (some ⟨w.heap.size + 73, 0, none⟩) 2 2, .slice (some ⟨w.heap.size + 74, 0, none⟩) 2 2, .slice (some ⟨w.heap.size + 75, 0, none⟩) 1 1], .slice (some ⟨w.heap.size + 76, 0, none⟩) 2 2, .slice (some ⟨w.heap.size + 77, 0, none⟩) 1 1, .slice (some ⟨w.heap.size + 78, 0, none⟩) 1 1, .agg #[.slice (some ⟨w.heap.size + 76, 0, none⟩) 2 2, .slice (some ⟨w.heap.size + 77, 0, none⟩) 1 1, .slice (some ⟨w.heap.size + 78, 0, none⟩) 1 1], .slice (some ⟨w.heap.size + 79, 0, none⟩) 1 1, .slice (some ⟨w.heap.size + 80, 0, none⟩) 1 1, .slice (some ⟨w.heap.size + 81, 0, none⟩) 1 1, .agg #[.slice (some ⟨w.heap.size + 79, 0, none⟩) 1 1, .slice (some ⟨w.heap.size + 80, 0, none⟩) 1 1, .slice (some ⟨w.heap.size + 81, 0, none⟩) 1 1], .slice (some ⟨w.heap.size + 82, 0, none⟩) 1 1, .slice (some ⟨w.heap.size + 83, 0, none⟩) 1 1, .slice (some ⟨w.heap.size + 84, 0, none⟩) 1 1, .agg #[.slice (some ⟨w.heap.size + 82, 0, none⟩) 1 1, .slice (some ⟨w.heap.size + 83, 0, none⟩) 1 1, .slice (some ⟨w.heap.size + 84, 0, none⟩) 1 1], .slice (some ⟨w.heap.size + 85, 0, none⟩) 4 4, .agg #[.slice (some ⟨w.heap.size + 72, 0, none⟩) 1 1, .slice (some ⟨w.heap.size + 85, 0, none⟩) 4 4], .slice (some ⟨w.heap.size + 86, 0, none⟩) 1 1, .slice (some ⟨w.heap.size + 87, 0, none⟩) 2 2, .slice (some ⟨w.heap.size + 88, 0, none⟩) 2 2, .slice (some ⟨w.heap.size + 89, 0, none⟩) 1 1, .agg #[.slice (some ⟨w.heap.size + 87, 0, none⟩) 2 2, .slice (some ⟨w.heap.size + 88, 0, none⟩) 2 2, .slice (some ⟨w.heap.size + 89, 0, none⟩) 1 1], .slice (some ⟨w.heap.size + 90, 0, none⟩) 2 2, .slice (some ⟨w.heap.size + 91, 0, none⟩) 2 2, .slice (some ⟨w.heap.size + 92, 0, none⟩) 1 1, .agg #[.slice (some ⟨w.heap.size + 90, 0, none⟩) 2 2, .slice (some ⟨w.heap.size + 91, 0, none⟩) 2 2, .slice (some ⟨w.heap.size + 92, 0, none⟩) 1 1], .slice (some ⟨w.heap.size + 93, 0, none⟩) 2 2, .slice (some ⟨w.heap.size + 94, 0, none⟩) 1 1, .slice (some ⟨w.heap.size + 95, 0, none⟩) 1 1, .agg #[.slice (some ⟨w.heap.size + 93, 0, none⟩) 2 2, .slice (some ⟨w.heap.size + 94, 0, none⟩) 1 1, .slice (some ⟨w.heap.size + 95, 0, none⟩) 1 1], .slice (some ⟨w.heap.size + 96, 0, none⟩) 1 1, .slice (some ⟨w.heap.size + 97, 0, none⟩) 1 1, .slice (some ⟨w.heap.size + 98, 0, none⟩) 1 1, .agg #[.slice (some ⟨w.heap.size + 96, 0, none⟩) 1 1, .slice (some ⟨w.heap.size + 97, 0, none⟩) 1 1, .slice (some ⟨w.heap.size + 98, 0, none⟩) 1 1], .slice (some ⟨w.heap.size + 99, 0, none⟩) 1 1, .slice (some ⟨w.heap.size + 100, 0, none⟩) 1 1, .slice (some ⟨w.heap.size + 101, 0, none⟩) 1 1, .agg #[.slice (some ⟨w.heap.size + 99, 0, none⟩) 1 1, .slice (some ⟨w.heap.size + 100, 0, none⟩) 1 1, .slice (some ⟨w.heap.size + 101, 0, none⟩) 1 1], .slice (some ⟨w.heap.size + 102, 0, none⟩) 5 5, .agg #[.slice (some ⟨w.heap.size + 86, 0, none⟩) 1 1, .slice (some ⟨w.heap.size + 102, 0, none⟩) 5 5], .slice (some ⟨w.heap.size + 103, 0, none⟩) 1 1, .slice (some ⟨w.heap.size + 104, 0, none⟩) 3 3, .slice (some ⟨w.heap.size + 105, 0, none⟩) 3 3, .slice (some ⟨w.heap.size + 106, 0, none⟩) 1 1, .agg #[.slice (some ⟨w.heap.size + 104, 0, none⟩) 3 3, .slice (some ⟨w.heap.size + 105, 0, none⟩) 3 3, .slice (some ⟨w.heap.size + 106, 0, none⟩) 1 1], .slice (some ⟨w.heap.size + 107, 0, none⟩) 3 3, .slice (some ⟨w.heap.size + 108, 0, none⟩) 2 2, .slice (some ⟨w.heap.size + 109, 0, none⟩) 1 1, .agg #[.slice (some ⟨w.heap.size + 107, 0, none⟩) 3 3, .slice (some ⟨w.heap.size + 108, 0, none⟩) 2 2, .slice (some ⟨w.heap.size + 109, 0, none⟩) 1 1], .slice (some ⟨w.heap.size + 110, 0, none⟩) 2 2, .slice (some ⟨w.heap.size + 111, 0, none⟩) 1 1, .slice (some ⟨w.heap.size + 112, 0, none⟩) 1 1, .agg #[.slice (some ⟨w.heap.size + 110, 0, none⟩) 2 2, .slice (some ⟨w.heap.size + 111, 0, none⟩) 1 1, .slice (some ⟨w.heap.size + 112, 0, none⟩) 1 1], .slice (some ⟨w.heap.size + 113, 0, none⟩) 1 1, .slice (some ⟨w.heap.size + 114, 0, none⟩) 1 1, .slice (some ⟨w.heap.size + 115, 0, none⟩) 1 1, .agg #[.slice (some ⟨w.heap.size + 113, 0, none⟩) 1 1, .slice (some ⟨w.heap.size + 114, 0, none⟩) 1 1, .slice (some ⟨w.heap.size + 115, 0, none⟩) 1 1], .slice (some ⟨w.heap.size + 116, 0, none⟩) 1 1, .slice (some ⟨w.heap.size + 117, 0, none⟩) 1 1, .slice (some ⟨w.heap.size + 118, 0, none⟩) 1 1, .agg #[.slice (some ⟨w.heap.size + 116, 0, none⟩) 1 1, .slice (some ⟨w.heap.size + 117, 0, none⟩) 1 1, .slice (some ⟨w.heap.size + 118, 0, none⟩) 1 1], .slice (some ⟨w.heap.size + 119, 0, none⟩) 5 5, .agg #[.slice (some ⟨w.heap.size + 103, 0, none⟩) 1 1, .slice (some ⟨w.heap.size + 119, 0, none⟩) 5 5], .slice (some ⟨w.heap.size + 120, 0, none⟩) 1 1, .slice (some ⟨w.heap.size + 121, 0, none⟩) 4 4, .slice (some ⟨w.heap.size + 122, 0, none⟩) 4 4, .slice (some ⟨w.heap.size + 123, 0, none⟩) 1 1, .agg #[.slice (some ⟨w.heap.size + 121, 0, none⟩) 4 4, .slice (some ⟨w.heap.size + 122, 0, none⟩) 4 4, .slice (some ⟨w.heap.size + 123, 0, none⟩) 1 1], .slice (some ⟨w.heap.size + 124, 0, none⟩) 4 4, .slice (some ⟨w.heap.size + 125, 0, none⟩) 4 4, .slice (some ⟨w.heap.size + 126, 0, none⟩) 1 1, .agg #[.slice (some ⟨w.heap.size + 124, 0, none⟩) 4 4, .slice (some ⟨w.heap.size + 125, 0, none⟩) 4 4, .slice (some ⟨w.heap.size + 126, 0, none⟩) 1 1], .slice (some ⟨w.heap.size + 127, 0, none⟩) 4 4, .slice (some ⟨w.heap.size + 128, 0, none⟩) 2 2, .slice (some ⟨w.heap.size + 129, 0, none⟩) 1 1, .agg #[.slice (some ⟨w.heap.size + 127, 0, none⟩) 4 4, .slice (some ⟨w.heap.size + 128, 0, none⟩) 2 2, .slice (some ⟨w.heap.size + 129, 0, none⟩) 1 1], .slice (some ⟨w.heap.size + 130, 0, none⟩) 2 2, .slice (some ⟨w.heap.size + 131, 0, none⟩) 1 1, .slice (some ⟨w.heap.size + 132, 0, none⟩) 1 1, .agg #[.slice (some ⟨w.heap.size + 130, 0, none⟩) 2 2, .slice (some ⟨w.heap.size + 131, 0, none⟩) 1 1, .slice (some ⟨w.heap.size + 132, 0, none⟩) 1 1], .slice (some ⟨w.heap.size + 133, 0, none⟩) 1 1, .slice (some ⟨w.heap.size + 134, 0, none⟩) 1 1, .slice (some ⟨w.heap.size + 135, 0, none⟩) 1 1, .agg #[.slice (some ⟨w.heap.size + 133, 0, none⟩) 1 1, .slice (some ⟨w.heap.size + 134, 0, none⟩) 1 1, .slice (some ⟨w.heap.size + 135, 0, none⟩) 1 1], .slice (some ⟨w.heap.size + 136, 0, none⟩) 1 1, .slice (some ⟨w.heap.size + 137, 0, none⟩) 1 1, .slice (some ⟨w.heap.size + 138, 0, none⟩) 1 1, .agg #[.slice (some ⟨w.heap.size + 136, 0, none⟩) 1 1, .slice (some ⟨w.heap.size + 137, 0, none⟩) 1 1, .slice (some ⟨w.heap.size + 138, 0, none⟩) 1 1], .slice (some ⟨w.heap.size + 139, 0, none⟩) 6 6, .agg #[.slice (some ⟨w.heap.size + 120, 0, none⟩) 1 1, .slice (some ⟨w.heap.size + 139, 0, none⟩) 6 6], .slice (some ⟨w.heap.size + 140, 0, none⟩) 11 11, undef, undef, undef, undef, undef, undef, undef, undef, undef, undef, undef, undef]) (by kernel_rfl) ?_
  have hW : W = revAllocs w (knownOs w.heap.size) := hwc.out
  have hB : Below w.heap.size w W := by rw [hW]; exact revAllocs_below _ _
  have hF : Row W w.heap.size 55 [.slice none 0 0, .slice none 0 0] := by rw [hW]; exact known_first w
  obtain ⟨kk, hkk⟩ : ∃ kk, kk = knownI i := ⟨_, rfl⟩
  have hk11 : kk < 11 := by rw [hkk]; exact Nat.mod_lt _ (by omega)
  obtain ⟨vg, vc, cg, cc, rg, rc⟩ := known_data w kk hk11
  rw [← hW] at cg cc rg rc
  clear hwc hsc hW
  obtain ⟨GA, gc, rfl, _, _⟩ := sl_open rg
  obtain ⟨gl, hgl⟩ : ∃ gl, gl = [4].length := ⟨_, rfl⟩
  rw [← hgl] at rg cg
  clear hgl
  obtain ⟨CA, ccap, rfl, _, _⟩ := sl_open rc
  obtain ⟨cl, hcl⟩ : ∃ cl, cl = (knownD kk).length := ⟨_, rfl⟩
  rw [← hcl] at rc cc
  clear hcl
  obtain ⟨vg, hvg⟩ : ∃ v, v = Value.slice GA gl gc := ⟨_, rfl⟩
  obtain ⟨vc, hvc⟩ : ∃ v, v = Value.slice CA cl ccap := ⟨_, rfl⟩
  rw [← hvg] at rg cg
  rw [← hvc] at rc cc
  have f0 := hF.frozen 0
  have f1 := hF.frozen 1
  have d0 := hF.cell 0 (by simp)
  have d1 := hF.cell 1 (by simp)
  simp only [List.getElem_cons_zero, List.getElem_cons_succ] at d0 d1
  have hF2 := (hF.set 0 vg).set 1 vc
  simp only [List.set_cons_zero, List.set_cons_succ] at hF2
  have g0 := hF2.cell 0 (by simp)
  have g1 := hF2.cell 1 (by simp)
  simp only [List.getElem_cons_zero, List.getElem_cons_succ] at g0 g1
  have hB2 := below_setCell (below_setCell hB (p := ⟨w.heap.size, 0, none⟩) (Nat.le_refl _) vg) (p := ⟨w.heap.size, 1, none⟩) (Nat.le_refl _) vc
  have hsame : Same (Later w W) W ((W.setCell ⟨w.heap.size, 0, none⟩ vg).setCell ⟨w.heap.size, 1, none⟩ vc) := same_setCell (same_setCell (Same.refl _ _) (fun z hz e => Nat.lt_irrefl _ (Nat.lt_of_lt_of_le hz.1 (Nat.le_of_eq e))) vg) (fun z hz e => Nat.lt_irrefl _ (Nat.lt_of_lt_of_le hz.1 (Nat.le_of_eq e))) vc
  have rg2 := NatS.mono rg (S' := Fresh w ((W.setCell ⟨w.heap.size, 0, none⟩ vg).setCell ⟨w.heap.size, 1, none⟩ vc)) (fun z hz => ⟨Nat.le_of_lt hz.1, by have := hz.2; simpa using this⟩) hsame
  have rc2 := DStepS.sl.mono rc (S' := Fresh w ((W.setCell ⟨w.heap.size, 0, none⟩ vg).setCell ⟨w.heap.size, 1, none⟩ vc)) (fun z hz => ⟨Nat.le_of_lt hz.1, by have := hz.2; simpa using this⟩) hsame
  have Hres := hid (show (∃ a b, (Ending.returned (.agg #[vg, vc])) = .returned (.agg #[a, b]) ∧ NatS.rep (Fresh w ((W.setCell ⟨w.heap.size, 0, none⟩ vg).setCell ⟨w.heap.size, 1, none⟩ vc)) ((W.setCell ⟨w.heap.size, 0, none⟩ vg).setCell ⟨w.heap.size, 1, none⟩ vc) [4] [a] ∧ DStepS.sl.rep (Fresh w ((W.setCell ⟨w.heap.size, 0, none⟩ vg).setCell ⟨w.heap.size, 1, none⟩ vc)) ((W.setCell ⟨w.heap.size, 0, none⟩ vg).setCell ⟨w.heap.size, 1, none⟩ vc) (knownD kk) [b]) ∧ Below w.heap.size w ((W.setCell ⟨w.heap.size, 0, none⟩ vg).setCell ⟨w.heap.size, 1, none⟩ vc) from ⟨⟨vg, vc, rfl, rg2, rc2⟩, hB2⟩)
  replace hkk := hid hkk
  clear hsame rg2 rc2 hB2 hF2 hF rg rc hB
  subst hvg hvc
  by_cases hneg : i < 0
  · obtain ⟨K, hK⟩ : ∃ K : Nat, (K : Int) = -(i + 1) := ⟨(-(i + 1)).toNat, by omega⟩
    have e1 : (K : Int) % 11 = (kk : Int) := by rw [hkk.out]; unfold knownI; rw [if_pos hneg, ← hK]; omega
    have e2 : -(i + 1) = (K : Int) := hK.symm
    clear hK
    go_wp2_with fail
    exact bodyPost_ret (ret_group rfl _ rfl g0 g1) rfl (by rw [← hkk.out]; exact Hres.out)
  · obtain ⟨K, rfl⟩ : ∃ K : Nat, i = (K : Int) := ⟨i.toNat, by omega⟩
    have e1 : (K : Int) % 11 = (kk : Int) := by rw [hkk.out]; unfold knownI; rw [if_neg hneg]; omega
    go_wp2_with fail
    exact bodyPost_ret (ret_group rfl _ rfl g0 g1) rfl (by rw [← hkk.out]; exact Hres.out)
theorem known_calls (i : Int) (h0 : -9223372036854775808 ≤ i) (h1 : i ≤ 9223372036854775807) (w : World) :
    Calls Try.prog 20 #[.int .i64 i] w fun e w' => (∃ vg vc, e = .returned (.agg #[vg, vc]) ∧ RawN.rep (Fresh w w') w' 4 [vg] ∧ StepS.sl.rep (Fresh w w') w' (knownL (knownI i)) [vc]) ∧ Below w.heap.size w w' := by
  refine (known_dig i h0 h1 w).mono ?_
  rintro e w' ⟨⟨vg, vc, he, hg, hc⟩, hb⟩
  have h := dchain_chain hc
  rw [(knownD_val (knownI i) (Nat.mod_lt _ (by omega))).1] at h
  exact ⟨⟨vg, vc, he, ⟨[4], hg, rfl⟩, h⟩, hb⟩
end Go.Proofs.Ytphbacggmhjmgaa

/- Strings of bytes; slices that were made one behind the other. -/
namespace Go.Proofs.Ytphbacggmhjmgaa
open Go.RowKit

/-- bytes as a string -/
def bstr (xs : List Nat) : ByteArray := ⟨(xs.map UInt8.ofNat).toArray⟩
theorem bstr_inj {xs ys : List Nat} (hx : Pl.Dig 256 xs) (hy : Pl.Dig 256 ys) : bstr xs = bstr ys ↔ xs = ys := by
  constructor
  · intro h
    have h1 : (bstr xs).data = (bstr ys).data := congrArg ByteArray.data h
    have h2 : xs.map UInt8.ofNat = ys.map UInt8.ofNat := List.toArray_inj h1
    have h3 := congrArg (List.map UInt8.toNat) h2
    simp only [List.map_map] at h3
    have e : ∀ {zs : List Nat}, Pl.Dig 256 zs → zs.map (UInt8.toNat ∘ UInt8.ofNat) = zs := by
      intro zs hz
      conv => rhs; rw [← List.map_id zs]
      apply List.map_congr_left
      intro a ha
      have := hz a ha
      simp only [Function.comp_apply, id_eq, UInt8.toNat_ofNat']
      exact Nat.mod_eq_of_lt this
    rw [e hx, e hy] at h3
    exact h3
  · rintro rfl; rfl
theorem str_run {S : Nat → Prop} {w : World} {xs : List Nat} {v : Value} (h : ByteS.rep S w xs [v]) : (convert 22 9 v).run Try.prog w = .ok (.string (bstr xs)) w := by
  have hd := num_dig h
  obtain ⟨A, cap, rfl, hcap, hcm⟩ := sl_open h
  rcases Nat.eq_zero_or_pos xs.length with h0 | h0
  · obtain rfl := List.eq_nil_of_length_eq_zero h0
    rw [List.length_nil, run_convert_bytes_string w 22 9 5 A 0 cap Try.underlying22 Try.underlying5 Try.underlying9]
    cases A <;> simp [Conv.bytesToString, loadCells, loadCellsFrom, bstr] <;> rfl
  · obtain ⟨b, o, rfl, _⟩ := num_at h 0 h0
    have hl : (xs.map UInt8.ofNat).length = xs.length := by simp
    rw [← hl]
    refine run_convert_bytes_back w 22 9 5 ⟨b, o, none⟩ cap (xs.map UInt8.ofNat) Try.underlying22 Try.underlying5 Try.underlying9 ?_
    intro j hj
    rw [hl] at hj
    have hc := (num_all h j hj).2
    have ha : (⟨b, o, none⟩ : Addr).add j = ⟨b, o + j, none⟩ := by unfold Addr.add; split <;> simp_all
    rw [ha, hc]
    have := hd.at j hj
    simp only [List.getElem_map, UInt8.toNat_ofNat']
    rw [Nat.mod_eq_of_lt this]

theorem lits_dig (w : World) (os : List Obj) {j n : Nat} {ds : List Nat} (hn : n = ds.length) (hj : j < os.length) (h : os[os.length - 1 - j]? = some (.cells (nums .u64 ds).toArray 65)) (hd : ds.all (fun d => decide (d < B64)) = true) (hl4 : ds.length ≤ 100) :
    NatS.rep (Fresh w (revAllocs w os)) (revAllocs w os) ds [.slice (some ⟨w.heap.size + j, 0, none⟩) n n] := by
  subst hn
  have hr := revAllocs_row w os j hj h
  have hl := hr.lt
  have hdig : Pl.Dig B64 ds := fun d hm => by simpa using List.all_eq_true.1 hd d hm
  exact hr.slNum (B := B64) (S := Fresh w _) ⟨Nat.le_add_right _ _, hl⟩ hdig ds.length (Nat.le_refl _) (by omega) (by omega)
/-- one of many slices of numbers that were made one behind the other -/
theorem lits_nat (w : World) (os : List Obj) {j n : Nat} {ds : List Nat} {x : Nat} (hn : n = ds.length) (hj : j < os.length) (h : os[os.length - 1 - j]? = some (.cells (nums .u64 ds).toArray 65)) (hd : ds.all (fun d => decide (d < B64)) = true) (hl4 : ds.length ≤ 100) (hv : Pl.val B64 ds = x) :
    RawN.rep (Fresh w (revAllocs w os)) (revAllocs w os) x [.slice (some ⟨w.heap.size + j, 0, none⟩) n n] := by
  subst hn
  have hr := revAllocs_row w os j hj h
  have hl := hr.lt
  have hdig : Pl.Dig B64 ds := fun d hm => by simpa using List.all_eq_true.1 hd d hm
  exact ⟨ds, hr.slNum (B := B64) (S := Fresh w _) ⟨Nat.le_add_right _ _, hl⟩ hdig ds.length (Nat.le_refl _) (by omega) (by omega), hv⟩
theorem lits_bytes (w : World) (os : List Obj) {j n : Nat} {ds : List Nat} (hn : n = ds.length) (hj : j < os.length) (h : os[os.length - 1 - j]? = some (.cells (nums .u8 ds).toArray 5)) (hd : ds.all (fun d => decide (d < 256)) = true) (hl4 : ds.length ≤ 100) :
    ByteS.rep (Fresh w (revAllocs w os)) (revAllocs w os) ds [.slice (some ⟨w.heap.size + j, 0, none⟩) n n] := by
  subst hn
  have hr := revAllocs_row w os j hj h
  have hl := hr.lt
  have hdig : Pl.Dig 256 ds := fun d hm => by simpa using List.all_eq_true.1 hd d hm
  exact hr.slNum (B := 256) (S := Fresh w _) ⟨Nat.le_add_right _ _, hl⟩ hdig ds.length (Nat.le_refl _) (by omega) (by omega)

theorem grp_ptr {S : Nat → Prop} {w : World} {x : G4} {v : Value} (h : GrpP.rep S w x [v]) : ∃ b : Nat, v = .pointer (some ⟨b, 0, none⟩) := by
  obtain ⟨b, ds, hv, _⟩ := h
  simp only [List.cons.injEq, and_true] at hv
  exact ⟨b, hv⟩

end Go.Proofs.Ytphbacggmhjmgaa
