/- The law NetPlays: more of what its walk leans on. -/
import Derived.Test.YtigdeaeoejpnlaaNetM
namespace Go.Proofs.Ytigdeaeoejpnlaa
open Go.RowKit

theorem err_neq (a b : Int) (W : World) : (binOp .neq 34 (.iface 36 (.int .i64 a)) (.iface 36 (.int .i64 b))).run Try.prog W = .ok (.bool (!(a == b))) W := by
  have h := err_eql a b W
  simp only [binOp] at h ⊢
  revert h
  generalize Op.equal 34 (.iface 36 (.int .i64 a)) (.iface 36 (.int .i64 b)) = m
  intro h
  simp only [Sem.run_bind, Sem.run_pure] at h ⊢
  cases hm : m.run Try.prog W <;> simp_all [Result.andThen]

theorem At.putCell {w : World} {b o : Nat} {ys : List Value} (h : At w b o ys) (i : Nat) (hi : i < ys.length) (v : Value) : At (w.setCell ⟨b, o + i, none⟩ v) b o (ys.set i v) := by
  intro j hj
  rw [List.length_set] at hj
  refine ⟨?_, by rw [World.frozen?_setCell]; exact (h j hj).2⟩
  by_cases e : i = j
  · subst e
    rw [World.cell?_setCell_same _ _ _ (h i hi).1, List.getElem_set_self]
  · rw [World.cell?_setCell_other _ _ _ _ (by intro h; simp only [Addr.mk.injEq] at h; omega), List.getElem_set_ne e]
    exact (h j hj).1
theorem sl_putNum {k : IntKind} {B : Nat} {S : Nat → Prop} {w : World} {ds : List Nat} {b o n cap : Nat} (h : (Rep.num k B).sl.rep S w ds [.slice (some ⟨b, o, none⟩) n cap]) (i : Nat) (hi : i < ds.length) (d : Nat) (hd : d < B) :
    (Rep.num k B).sl.rep S (w.setCell ⟨b, o + i, none⟩ (.int k (d : Int))) (ds.set i d) [.slice (some ⟨b, o, none⟩) n cap] := by
  obtain ⟨A, cap', ys, e, h1, h2, h3, h4⟩ := h
  simp only [List.cons.injEq, Value.slice.injEq, and_true] at e
  obtain ⟨rfl, rfl, rfl⟩ := e
  obtain ⟨rfl, hdig⟩ := repL_num.1 h4
  refine ⟨_, _, nums k (ds.set i d), by rw [List.length_set], by simpa using h1, by simpa using h2, fun hne => ?_, repL_num.2 ⟨rfl, hdig.set i hd⟩⟩
  obtain ⟨b', o', e, hS, hb, ha⟩ := h3 (by intro e; subst e; simp at hi)
  simp only [Option.some.injEq, Addr.mk.injEq, and_true] at e
  obtain ⟨rfl, rfl⟩ := e
  refine ⟨_, _, rfl, hS, by simpa using hb, ?_⟩
  have := ha.putCell i (by simpa using hi) (.int k (d : Int))
  rwa [show ((ds.map fun n : Nat => Value.int k (n : Int)).set i (.int k (d : Int))) = nums k (ds.set i d) from nums_set k ds i d] at this
theorem sl_free {k : IntKind} {B : Nat} {S : Nat → Prop} {w : World} {ds : List Nat} {b o n cap : Nat} (h : (Rep.num k B).sl.rep S w ds [.slice (some ⟨b, o, none⟩) n cap]) (i : Nat) (hi : i < ds.length) : w.frozen? ⟨b, o + i, none⟩ = false := by
  obtain ⟨b', o', ys, e, hb, ha, hr⟩ := sl_cells h (by omega)
  simp only [Option.some.injEq, Addr.mk.injEq, and_true] at e
  obtain ⟨rfl, rfl⟩ := e
  obtain ⟨rfl, _⟩ := repL_num.1 hr
  exact (ha i (by simpa using hi)).2

/-- Net and list, each with what it holds. -/
structure Two (w : World) (F S : Nat → Prop) (g : Nat) (lv : Value) (xs ys : List Packet) (wr : World) : Prop where
  net : NetIs w.heap.size F S wr g xs
  own : Own PacketS w.heap.size 30 (· < w.heap.size) wr ys lv
  dis : ∀ k, lv.ownBlock = some k → ¬ F k ∧ ¬ S k
  low : Below w.heap.size w wr
theorem Two.turned {w wr w' : World} {F S F' : Nat → Prop} {g : Nat} {lv : Value} {xs ys : List Packet} (h : Two w F S g lv xs ys wr) (k : Turned F' wr w') (h1 : ∀ b, F' b → w.heap.size ≤ b ∧ ¬ F b ∧ ¬ S b ∧ lv.ownBlock ≠ some b) : Two w F S g lv xs ys w' := by
  have hs := h.low.size
  refine ⟨h.net.turned k (fun b hb hf => ?_), h.own.turned k (fun b hb => ⟨Nat.lt_of_lt_of_le hb hs, fun hf => ?_⟩) (fun i hi hf => (h1 i hf).2.2.2 hi), h.dis, k.below h.low hs (fun i hi => (h1 i hi).1)⟩
  · have := h1 b hf
    rcases hb with hb | hb
    · exact this.2.1 hb
    · exact this.2.2.1 hb
  · have := (h1 b hf).1; have h2 : b < w.heap.size := hb; omega
theorem Two.below {w wr w' : World} {F S : Nat → Prop} {g : Nat} {lv : Value} {xs ys : List Packet} (h : Two w F S g lv xs ys wr) (k : Below wr.heap.size wr w') : Two w F S g lv xs ys w' :=
  h.turned (F' := fun _ => False) (Turned.of_below k) (fun _ h => h.elim)
theorem Bes.two {w wr : World} {F S : Nat → Prop} {g : Nat} {lv : Value} {xs : List Packet} (h : Bes w F S g lv xs wr) : Two w F S g lv xs xs wr := ⟨h.net, h.own, h.dis, h.low⟩
/-- What turns the net alone. -/
theorem Two.send {w wr w' : World} {F S F' S' : Nat → Prop} {g : Nat} {lv : Value} {xs ys zs : List Packet} (h : Two w F S g lv xs ys wr) (hN : NetIs w.heap.size F' S' w' g zs) (hF : ∀ b, F' b → F b ∨ Fresh wr w' b) (hS : ∀ b, S' b → S b ∨ Fresh wr w' b) (k : Turned F wr w') :
    Two w F' S' g lv zs ys w' := by
  have hs := h.low.size
  have hlt := h.net.lt
  refine ⟨hN, h.own.turned k (fun b hb => ⟨Nat.lt_of_lt_of_le hb hs, fun hf => ?_⟩) (fun i hi => (h.dis i hi).1), fun i hi => ⟨fun hf => ?_, fun hf => ?_⟩, k.below h.low hs (fun i hi => (hlt i hi).1)⟩
  · have := (hlt b hf).1; have h2 : b < w.heap.size := hb; omega
  · rcases hF i hf with h1 | h1
    · exact (h.dis i hi).1 h1
    · have := (h.own.blk i hi).2; have := h1.1; omega
  · rcases hS i hf with h1 | h1
    · exact (h.dis i hi).2 h1
    · have := (h.own.blk i hi).2; have := h1.1; omega
theorem SlE.below {α : Type} {r : Rep α} {S : Nat → Prop} {w w' : World} {ys : List α} {u : Value} (h : SlE r S w ys u) (hb : Below w.heap.size w w') : SlE r S w' ys u := by
  obtain ⟨A, cap, ds, rfl, h1, h2, h3, h4⟩ := h
  have h5 := h4.live.mono (S' := S) (fun _ h => h.1) (fun b hb' => hb.block b hb'.2)
  refine ⟨A, cap, ds, rfl, h1, h2, fun hne => ?_, h5⟩
  obtain ⟨b, o, e, hlt, ha⟩ := h3 hne
  exact ⟨b, o, e, Nat.lt_of_lt_of_le hlt hb.size, ha.same (S := (· < w.heap.size)) hlt (fun i hi => hb.block i hi)⟩
theorem sle_at {α : Type} {r : Rep α} {S : Nat → Prop} {w : World} {xs : List α} {A : Option Addr} {n cap : Nat} (h : SlE r S w xs (.slice A n cap)) (i : Nat) (hi : i < xs.length) :
    ∃ b o ys, A = some ⟨b, o, none⟩ ∧ b < w.heap.size ∧ At w b (o + i * r.sz) ys ∧ r.rep S w xs[i] ys := by
  obtain ⟨A0, cap0, ds, e, h1, h2, h3, h4⟩ := h
  simp only [Value.slice.injEq] at e
  obtain ⟨rfl, rfl, rfl⟩ := e
  obtain ⟨b, o, e, hb, ha⟩ := h3 (by intro e; subst e; simp at hi)
  exact ⟨b, o, _, e, hb, ha.seg _ _, h4.at i hi⟩
theorem packet_el {S : Nat → Prop} {w : World} {xs : List Packet} {A : Option Addr} {n cap : Nat} (h : SlE PacketS S w xs (.slice A n cap)) (i : Nat) (hi : i < xs.length) :
    ∃ b o a1 a2 a3 a4 A' n' cap', A = some ⟨b, o, none⟩ ∧ b < w.heap.size ∧ PacketS.rep S w xs[i] [.int .i64 a1, .int .i64 a2, .int .u64 a3, .bool a4, .slice A' n' cap'] ∧
      w.cell? ⟨b, o + i * 5, none⟩ = some (.int .i64 a1) ∧ w.cell? ⟨b, o + i * 5 + 1, none⟩ = some (.int .i64 a2) ∧ w.cell? ⟨b, o + i * 5 + 2, none⟩ = some (.int .u64 a3) ∧ w.cell? ⟨b, o + i * 5 + 3, none⟩ = some (.bool a4) ∧ w.cell? ⟨b, o + i * 5 + 4, none⟩ = some (.slice A' n' cap') := by
  obtain ⟨b, o, ys, e, hb, ha, hr⟩ := sle_at h i hi
  obtain ⟨A', cap', rfl, _⟩ := packet_open hr
  exact ⟨b, o, _, _, _, _, _, _, _, e, hb, hr, ha.cell 0 (by simp), ha.cell 1 (by simp), ha.cell 2 (by simp), ha.cell 3 (by simp), ha.cell 4 (by simp)⟩
theorem SlE.ofRow {S : Nat → Prop} {w : World} {p : Packet} {g : Nat} {e : TypeId} {v0 v1 v2 v3 v4 : Value} (hr : Row w g e [v0, v1, v2, v3, v4]) (h : PacketS.rep S w p [v0, v1, v2, v3, v4]) : SlE PacketS S w [p] (.slice (some ⟨g, 0, none⟩) 1 1) :=
  ⟨_, 1, [v0, v1, v2, v3, v4], rfl, by simp, by omega, fun _ => ⟨_, 0, rfl, hr.lt, hr.at⟩, RepL.single h⟩
/-- A list that is made anew. -/
theorem Two.renew {w wr w' : World} {F S : Nat → Prop} {g : Nat} {lv lv' : Value} {xs ys zs : List Packet} (h : Two w F S g lv xs ys wr) (hb : Below wr.heap.size wr w') (ho : Own PacketS wr.heap.size 30 (· < w.heap.size) w' zs lv') : Two w F S g lv' xs zs w' := by
  have hs := h.low.size
  have h' := h.below hb
  have hlt := h.net.lt
  have hbod := h.net.bod
  refine ⟨h'.net, ho.weaken hs (fun _ h => h), fun k hk => ⟨fun hf => ?_, fun hf => ?_⟩, h'.low⟩
  · have := (hlt k hf).2; have := (ho.blk k hk).1; omega
  · have := (hbod k hf).1; have := (ho.blk k hk).1; omega

end Go.Proofs.Ytigdeaeoejpnlaa
