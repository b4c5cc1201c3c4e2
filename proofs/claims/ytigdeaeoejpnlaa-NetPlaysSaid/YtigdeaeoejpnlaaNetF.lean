/- The layer net, sixth part: same. -/
import Derived.Test.YtigdeaeoejpnlaaNetE
import Derived.Laws.BytesString
namespace Go.Proofs.Ytigdeaeoejpnlaa
open Go.RowKit

def bstr (xs : List Nat) : ByteArray := (xs.map (fun n : Nat => (n : Int))).foldl (fun r n => r.push (UInt8.ofNat n.toNat)) ByteArray.empty

/-- bytes as a string -/
theorem bytes_string {S : Nat → Prop} {w : World} {xs : List Nat} {A : Option Addr} {n cap : Nat} (h : BytesS.rep S w xs [.slice A n cap]) :
    (convert 28 9 (.slice A n cap)).run Try.prog w = .ok (.string (bstr xs)) w := by
  rw [run_convert_bytes_string w _ _ _ A n cap Try.underlying28 Try.underlying5 Try.underlying9]
  rcases Nat.eq_zero_or_pos xs.length with h0 | h0
  · obtain rfl := List.eq_nil_of_length_eq_zero h0
    obtain ⟨A', cap', ys, e, _⟩ := h
    simp only [List.cons.injEq, Value.slice.injEq, and_true] at e
    obtain ⟨rfl, rfl, rfl⟩ := e
    cases A <;> simp [Conv.bytesToString, bstr, loadCells, loadCellsFrom]
  · obtain ⟨b, o, ys, rfl, hb, ha, hr⟩ := sl_cells h h0
    obtain ⟨rfl, _, _⟩ := sl_cap h
    obtain ⟨rfl, _⟩ := repL_num.1 hr
    have hl : (loadCells ⟨b, o, none⟩ xs.length).run Try.prog w = .ok ((xs.map (fun n : Nat => (n : Int))).map (Value.int .u8)).toArray w := by
      have := run_loadCells_list (P := Try.prog) (w := w) ⟨b, o, none⟩ (xs.map (fun n : Nat => Value.int .u8 (n : Int))) (fun j v hv => by
        obtain ⟨hj, rfl⟩ := List.getElem?_eq_some_iff.1 hv
        have e : (⟨b, o, none⟩ : Addr).add j = ⟨b, o + j, none⟩ := by unfold Addr.add; split <;> simp_all
        rw [e]; exact ha.cell j hj)
      rw [List.map_map]; simpa [Function.comp_def] using this
    rw [run_bytesToString w _ _ _ _ hl, bstr]

set_option maxHeartbeats 2000000 in
theorem same_true {w : World} {S T : Nat → Prop} {p : Packet} {cs ds : List Value} (h : PacketS.rep S w p cs) (k : PacketS.rep T w p ds) :
    Calls Try.prog 18 #[.agg cs.toArray, .agg ds.toArray] w fun e w' => e = .returned (.bool true) ∧ Below w.heap.size w w' := by
  obtain ⟨A, cap, rfl, hbody, h1, h2, h3⟩ := packet_open h
  obtain ⟨A', cap', rfl, kbody, _⟩ := packet_open k
  obtain ⟨a, b, c, d, xs⟩ := p
  simp only at hbody kbody ⊢
  have hb := ((Below.refl w.heap.size w).alloc (Nat.le_refl _) (.cells #[.int .i64 a, .int .i64 b, .int .u64 (c : Int), .bool d, .slice A xs.length cap] 30)).alloc (by simp) (.cells #[.int .i64 a, .int .i64 b, .int .u64 (c : Int), .bool d, .slice A' xs.length cap'] 30)
  have e1 := bytes_string (BytesS.below hbody hb)
  have e2 := bytes_string (BytesS.below kbody hb)
  go_enter Try.func18, Try.ntmps18
  go_wp2
  go_ret
  exact ⟨rfl, hb⟩

end Go.Proofs.Ytigdeaeoejpnlaa
