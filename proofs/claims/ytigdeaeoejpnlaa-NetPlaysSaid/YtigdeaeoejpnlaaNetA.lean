/- The layer net, first part: packets; copies of them. -/
import Derived.Test.YtigdeaeoejpnlaaMem
import Derived.Test.YtigdeaeoejpnlaaNatA
import Derived.Handy
namespace Go.Proofs.Ytigdeaeoejpnlaa
open Go.RowKit

abbrev Packet := Int × Int × Nat × Bool × List Nat
def BytesS : Rep (List Nat) := (Rep.num .u8 256).sl
def PacketS : Rep Packet := Rep.pair Rep.int (Rep.pair Rep.int (Rep.pair (Rep.num .u64 B64) (Rep.pair Rep.bool BytesS)))

theorem packet_open {S : Nat → Prop} {w : World} {p : Packet} {cs : List Value} (h : PacketS.rep S w p cs) :
    ∃ A cap, cs = [.int .i64 p.1, .int .i64 p.2.1, .int .u64 (p.2.2.1 : Int), .bool p.2.2.2.1, .slice A p.2.2.2.2.length cap] ∧ BytesS.rep S w p.2.2.2.2 [.slice A p.2.2.2.2.length cap] ∧
      (-9223372036854775808 ≤ p.1 ∧ p.1 ≤ 9223372036854775807) ∧ (-9223372036854775808 ≤ p.2.1 ∧ p.2.1 ≤ 9223372036854775807) ∧ p.2.2.1 < B64 := by
  obtain ⟨a, _, rfl, ⟨rfl, ha⟩, b, _, rfl, ⟨rfl, hb⟩, c, _, rfl, ⟨rfl, hc⟩, d, e, rfl, hd, he⟩ := h
  obtain ⟨A, cap, ys, e1, he'⟩ := id he
  subst e1
  have hd' : d = [.bool p.2.2.2.1] := hd
  subst hd'
  exact ⟨A, cap, rfl, he, ha, hb, hc⟩
theorem packet_make {S : Nat → Prop} {w : World} {a b : Int} {c : Nat} {d : Bool} {e : List Nat} {v : Value} (ha : -9223372036854775808 ≤ a ∧ a ≤ 9223372036854775807) (hb : -9223372036854775808 ≤ b ∧ b ≤ 9223372036854775807) (hc : c < B64) (he : BytesS.rep S w e [v]) :
    PacketS.rep S w (a, b, c, d, e) [.int .i64 a, .int .i64 b, .int .u64 (c : Int), .bool d, v] :=
  ⟨[_], _, rfl, ⟨rfl, ha⟩, [_], _, rfl, ⟨rfl, hb⟩, [_], _, rfl, ⟨rfl, hc⟩, [_], [_], rfl, rfl, he⟩

theorem Try.info5 : (Try.prog.info? 5).map (fun i => (i.zero, i.size, i.bytes)) = some (some (.int .u8 0), 1, 1) := by kernel_rfl

set_option maxHeartbeats 400000 in
theorem bclone_walk (w : World) (S : Nat → Prop) (A : Option Addr) (xs : List Nat) (cap : Nat) (h : BytesS.rep S w xs [.slice A xs.length cap]) (hl : xs.length * 1 ≤ 140737488355328) :
    Calls Try.prog 72 #[.slice A xs.length cap] w fun e w' => (∃ u, e = .returned u ∧ Own (Rep.num .u8 256) w.heap.size 5 (fun _ => False) w' xs u) ∧ Below w.heap.size w w' := by
  have hq := fun (w : World) => Lib.run_eql_slice_nil (P := Try.prog) w 28 5 A xs.length cap 0 0 Try.underlying28
  rcases A with _ | a
  · obtain rfl : xs = [] := by
      rcases Nat.eq_zero_or_pos xs.length with h0 | h0
      · exact List.eq_nil_of_length_eq_zero h0
      · obtain ⟨b, o, e, _⟩ := num_at h 0 h0; cases e
    clear h
    simp only [List.length_nil] at hq ⊢
    go_enter Try.func72, Try.ntmps72
    go_wp2
    go_ret
    exact ⟨⟨_, rfl, Own.nil _ _ _ _ _⟩, Below.refl _ _⟩
  · go_enter Try.func72, Try.ntmps72
    have hb := (Below.refl w.heap.size w).alloc (Nat.le_refl _) (.cells #[] 5)
    have h' := (Rep.num .u8 256).sl.below h hb
    go_wp2_with (at_builtin; refine wpList_append_rep (r := Rep.num .u8 256) rfl _ _ 28 5 (.int .u8 0) 1 rfl Try.underlying28 Try.info5 rfl (by decide) (by decide) w.heap.size _ [] (S := fun b => b < w.heap.size) _ xs rfl rfl ?c1 ?c2 ?c3 ?c4 ?c5 ?_)
    case c1 => exact Own.lit _ _ _ _ _ [] #[] (Nat.le_refl _) rfl 0 rfl (by omega)
    case c2 => exact (Rep.num .u8 256).sl.mono ((Rep.num .u8 256).sl.old h) (fun _ hb => hb) (Same.of_below hb)
    case c3 => simpa using hl
    case c4 => exact hb.size
    case c5 =>
      intro b hlt
      exact ⟨Nat.lt_of_lt_of_le hlt hb.size, ne_own (by omega)⟩
    intro v' w1 hown hg _
    have hB1 := hb.grown hg hb.size (fun k hk => own_ge hk (Nat.le_refl _))
    clear hb hg
    go_wp2
    go_ret
    refine ⟨⟨_, rfl, ?_⟩, hB1⟩
    obtain ⟨cs, h1, h2⟩ := hown
    exact ⟨cs, h1, repL_num.2 (repL_num.1 h2)⟩

/-- slices.Clone of bytes: new memory -/
theorem bclone_calls {w : World} {S : Nat → Prop} {xs : List Nat} {v : Value} (h : BytesS.rep S w xs [v]) :
    Calls Try.prog 72 #[v] w fun e w' => (∃ u, e = .returned u ∧ BytesS.rep (Fresh w w') w' xs [u]) ∧ Below w.heap.size w w' := by
  obtain ⟨A, cap, rfl, hc, hm⟩ := sl_open h
  have hb := sl_bytes h
  refine (bclone_walk w S A xs cap h hb).mono fun e w' ⟨⟨u, he, hu⟩, hw⟩ => ⟨⟨u, he, ?_⟩, hw⟩
  exact (hu.weaken (S' := Fresh w w') (Nat.le_refl _) (fun _ h => h.elim)).slFresh hb

theorem Row.newAt (w : World) (e : TypeId) (cs : Array Value) (n : Nat) (hn : n = w.heap.size) : Row (w.alloc (.cells cs e)) n e cs.toList := by
  subst hn; exact Row.new w e cs

theorem Same.setCell {S : Nat → Prop} {w w' : World} (h : Same S w w') {a : Addr} (ha : ∀ b, S b → b ≠ a.block) (v : Value) : Same S w (w'.setCell a v) := by
  intro b hb; rw [heap_setCell_other w' a b v (ha b hb)]; exact h b hb
theorem Fresh.ge {a b : World} {n i : Nat} (h : Fresh a b i) (hn : n < a.heap.size) : i ≠ n := by have := h.1; omega

theorem row5 {w : World} {b : Nat} {e : TypeId} {v0 v1 v2 v3 v4 : Value} (h : Row w b e [v0, v1, v2, v3, v4]) :
    w.cell? ⟨b, 0, none⟩ = some v0 ∧ w.cell? ⟨b, 1, none⟩ = some v1 ∧ w.cell? ⟨b, 2, none⟩ = some v2 ∧ w.cell? ⟨b, 3, none⟩ = some v3 ∧ w.cell? ⟨b, 4, none⟩ = some v4 ∧
    w.frozen? ⟨b, 0, none⟩ = false ∧ w.frozen? ⟨b, 1, none⟩ = false ∧ w.frozen? ⟨b, 2, none⟩ = false ∧ w.frozen? ⟨b, 3, none⟩ = false ∧ w.frozen? ⟨b, 4, none⟩ = false :=
  ⟨h.cell 0 (by simp), h.cell 1 (by simp), h.cell 2 (by simp), h.cell 3 (by simp), h.cell 4 (by simp), h.frozen 0, h.frozen 1, h.frozen 2, h.frozen 3, h.frozen 4⟩

theorem row5_set {w : World} {b : Nat} {e : TypeId} {x0 x1 x2 x3 x4 : Value} (h : Row w b e [x0, x1, x2, x3, x4]) (v0 v1 v2 v3 v4 : Value) :
    Row (((((w.setCell ⟨b, 0, none⟩ v0).setCell ⟨b, 1, none⟩ v1).setCell ⟨b, 2, none⟩ v2).setCell ⟨b, 3, none⟩ v3).setCell ⟨b, 4, none⟩ v4) b e [v0, v1, v2, v3, v4] := by
  simpa using ((((h.set 0 v0).set 1 v1).set 2 v2).set 3 v3).set 4 v4

theorem load_packet {W : World} {b : Nat} {e : TypeId} {v0 v1 v2 v3 v4 : Value} (h : Row W b e [v0, v1, v2, v3, v4]) :
    (loadVar 30 ⟨b, 0, none⟩).run Try.prog W = .ok (.agg #[v0, v1, v2, v3, v4]) W := by
  obtain ⟨k0, k1, k2, k3, k4, _⟩ := row5 h
  simp [loadVar, go_sem, k0, k1, k2, k3, k4, Result.andThen]

theorem ret_packet {fn : Func} {p : Tmp} (h : fn.results = #[.cell p 30]) (tmps : Array Value) {W : World} {b : Nat} {e : TypeId} {v0 v1 v2 v3 v4 : Value} (hp : tmps.getD p undef = .pointer (some ⟨b, 0, none⟩)) (hr : Row W b e [v0, v1, v2, v3, v4]) :
    (results fn tmps).run Try.prog W = .ok (.agg #[v0, v1, v2, v3, v4]) W := by
  have hp' : tmps[p]?.getD undef = .pointer (some ⟨b, 0, none⟩) := by rw [← hp]; simp
  simp only [results, h]
  simp [hp', asAddr, load_packet hr]

set_option maxHeartbeats 1000000 in
theorem own_calls {w : World} {S : Nat → Prop} {p : Packet} {cs : List Value} (h : PacketS.rep S w p cs) :
    Calls Try.prog 46 #[.agg cs.toArray] w fun e w' => (∃ ds, e = .returned (.agg ds.toArray) ∧ PacketS.rep (Fresh w w') w' p ds) ∧ Below w.heap.size w w' := by
  obtain ⟨A, cap, rfl, hbody, h1, h2, h3⟩ := packet_open h
  obtain ⟨a, b, c, d, xs⟩ := p
  simp only at hbody h1 h2 h3 ⊢
  go_enter Try.func46, Try.ntmps46
  go_wp2_with fail
  have hb := ((Below.refl w.heap.size w).alloc (Nat.le_refl _) (.cells #[.int .i64 a, .int .i64 b, .int .u64 (c : Int), .bool d, .slice A xs.length cap] 30)).alloc (by simp) (.cells #[.int .i64 0, .int .i64 0, .int .u64 0, .bool false, .slice none 0 0] 30)
  have r1 := (Row.new w 30 #[.int .i64 a, .int .i64 b, .int .u64 (c : Int), .bool d, .slice A xs.length cap]).alloc (.cells #[.int .i64 0, .int .i64 0, .int .u64 0, .bool false, .slice none 0 0] 30)
  have r2 := Row.newAt (w.alloc (.cells #[.int .i64 a, .int .i64 b, .int .u64 (c : Int), .bool d, .slice A xs.length cap] 30)) 30 #[.int .i64 0, .int .i64 0, .int .u64 0, .bool false, .slice none 0 0] (w.heap.size + 1) (by simp)
  refine (bclone_calls ((Rep.num .u8 256).sl.below hbody hb)).mono ?_
  rintro e w' ⟨⟨u, rfl, hu⟩, hw⟩
  have r1' := r1.below (by simp; omega) hw
  have r2' := r2.below (by simp) hw
  have hs := hw.size
  obtain ⟨A', cap', rfl, hc', _⟩ := sl_open hu
  obtain ⟨k0, k1, k2, k3, k4, f0, f1, f2, f3, f4⟩ := row5 r1'
  obtain ⟨_, _, _, _, _, g0, g1, g2, g3, g4⟩ := row5 r2'
  go_wp2_with fail
  have hfin := row5_set (w := w'.setCell ⟨w.heap.size, 4, none⟩ (.slice A' xs.length cap')) (r2'.other (a := ⟨w.heap.size, 4, none⟩) (by simp) _) (.int .i64 a) (.int .i64 b) (.int .u64 (c : Int)) (.bool d) (.slice A' xs.length cap')
  refine bodyPost_ret (ret_packet rfl _ rfl hfin) rfl ?_
  refine ⟨⟨[_, _, _, _, _], rfl, packet_make h1 h2 h3 ?_⟩, ?_⟩
  · exact BytesS.mono hu (fun b hb => ⟨by have := hb.1; simp at this; omega, by have := hb.2; simpa using this⟩)
      ((((((Same.refl _ _).setCell (fun b hb => hb.ge (by simp; omega)) _).setCell (fun b hb => hb.ge (by simp)) _).setCell (fun b hb => hb.ge (by simp)) _).setCell (fun b hb => hb.ge (by simp)) _).setCell (fun b hb => hb.ge (by simp)) _ |>.setCell (fun b hb => hb.ge (by simp)) _)
  · have h0 := (Below.trans hb (hw.mono hb.size))
    exact below_setCell (below_setCell (below_setCell (below_setCell (below_setCell (below_setCell h0 (by simp) _) (by simp) _) (by simp) _) (by simp) _) (by simp) _) (by simp) _

end Go.Proofs.Ytigdeaeoejpnlaa
