/- The law NetPlays: what its walk leans on. -/
import Derived.Test.YtigdeaeoejpnlaaNetL
import Derived.Test.YtigdeaeoejpnlaaMemB
namespace Go.Proofs.Ytigdeaeoejpnlaa
open Go.RowKit

abbrev Deed := Int × Int × Packet
def DeedS : Rep Deed := Rep.pair Rep.int (Rep.pair Rep.int PacketS)
theorem reads_deed : Reads Try.prog 40 DeedS :=
  reads_struct Try.underlying40 (readsF_cons (reads_int Try.underlying3) rfl (by kernel_rfl) (readsF_cons (reads_int Try.underlying3) rfl (by kernel_rfl) (readsF_one reads_packet rfl (by kernel_rfl)))) (by kernel_rfl)
theorem reads_deeds : Reads Try.prog 38 DeedS.sl :=
  reads_slice Try.underlying38 reads_deed (by kernel_rfl) (by kernel_rfl) (by decide)

theorem deed_open {S : Nat → Prop} {w : World} {p : Deed} {cs : List Value} (h : DeedS.rep S w p cs) :
    ∃ A cap, cs = .int .i64 p.1 :: .int .i64 p.2.1 :: cells5 p.2.2 A cap ∧ PacketS.rep S w p.2.2 (cells5 p.2.2 A cap) ∧ (-9223372036854775808 ≤ p.1 ∧ p.1 ≤ 9223372036854775807) ∧ (-9223372036854775808 ≤ p.2.1 ∧ p.2.1 ≤ 9223372036854775807) := by
  obtain ⟨a, _, rfl, ⟨rfl, ha⟩, b, c, rfl, ⟨rfl, hb⟩, hc⟩ := h
  obtain ⟨A, cap, rfl, _⟩ := packet_open hc
  exact ⟨A, cap, rfl, hc, ha, hb⟩
theorem deed_at {S : Nat → Prop} {w : World} {xs : List Deed} {A : Option Addr} {n cap : Nat} (h : DeedS.sl.rep S w xs [.slice A n cap]) (i : Nat) (hi : i < xs.length) :
    ∃ b o d1 d2 a1 a2 a3 a4 A' n' cap', A = some ⟨b, o, none⟩ ∧ S b ∧ d1 = xs[i].1 ∧ d2 = xs[i].2.1 ∧ PacketS.rep S w xs[i].2.2 [.int .i64 a1, .int .i64 a2, .int .u64 a3, .bool a4, .slice A' n' cap'] ∧ n' = xs[i].2.2.2.2.2.2.length ∧
      (-9223372036854775808 ≤ d1 ∧ d1 ≤ 9223372036854775807) ∧ (-9223372036854775808 ≤ d2 ∧ d2 ≤ 9223372036854775807) ∧
      w.cell? ⟨b, o + i * 7, none⟩ = some (.int .i64 d1) ∧ w.cell? ⟨b, o + i * 7 + 1, none⟩ = some (.int .i64 d2) ∧ w.cell? ⟨b, o + i * 7 + 2, none⟩ = some (.int .i64 a1) ∧ w.cell? ⟨b, o + i * 7 + 3, none⟩ = some (.int .i64 a2) ∧
      w.cell? ⟨b, o + i * 7 + 4, none⟩ = some (.int .u64 a3) ∧ w.cell? ⟨b, o + i * 7 + 5, none⟩ = some (.bool a4) ∧ w.cell? ⟨b, o + i * 7 + 6, none⟩ = some (.slice A' n' cap') := by
  obtain ⟨b, o, ys, e, hb, ha, hr⟩ := sl_at h i hi
  obtain ⟨A', cap', rfl, hp, h1, h2⟩ := deed_open hr
  exact ⟨b, o, _, _, _, _, _, _, _, _, _, e, hb, rfl, rfl, hp, rfl, h1, h2, ha.cell 0 (by simp), ha.cell 1 (by simp), ha.cell 2 (by simp [cells5]), ha.cell 3 (by simp [cells5]), ha.cell 4 (by simp [cells5]), ha.cell 5 (by simp [cells5]), ha.cell 6 (by simp [cells5])⟩

/-- What holds of the net and of the list beside it at the head of each round. -/
structure Bes (w : World) (F S : Nat → Prop) (g : Nat) (lv : Value) (xs : List Packet) (wr : World) : Prop where
  net : NetIs w.heap.size F S wr g xs
  own : Own PacketS w.heap.size 30 (· < w.heap.size) wr xs lv
  dis : ∀ k, lv.ownBlock = some k → ¬ F k ∧ ¬ S k
  low : Below w.heap.size w wr
def Beside (w : World) (g : Nat) (lv : Value) (xs : List Packet) (wr : World) : Prop := ∃ F S, Bes w F S g lv xs wr

theorem Own.turned {α : Type} {r : Rep α} {base : Nat} {e : TypeId} {S F : Nat → Prop} {w w' : World} {xs : List α} {v : Value} (h : Own r base e S w xs v) (k : Turned F w w') (hS : ∀ b, S b → b < w.heap.size ∧ ¬ F b) (hv : ∀ k, v.ownBlock = some k → ¬ F k) :
    Own r base e S w' xs v := by
  have hblk := h.blk
  obtain ⟨cs, k1, k2⟩ := h
  refine ⟨cs, ⟨k1.1, ?_⟩, k2.mono (fun _ h => h) (fun b hb => k.block b (hS b hb).1 (hS b hb).2)⟩
  rcases k1.2 with ⟨rfl, h0⟩ | ⟨b, cap, cur, rfl, hb, hg, r⟩
  · exact .inl ⟨rfl, h0⟩
  · exact .inr ⟨b, cap, cur, rfl, hb, (k.block b (hblk b rfl).2 (hv b rfl)).trans hg, r⟩
theorem Bes.below {w wr w' : World} {F S : Nat → Prop} {g : Nat} {lv : Value} {xs : List Packet} (h : Bes w F S g lv xs wr) (hb : Below wr.heap.size wr w') : Bes w F S g lv xs w' :=
  ⟨h.net.below hb, h.own.below hb (fun _ hb' => Nat.lt_of_lt_of_le hb' h.low.size), h.dis, Below.trans h.low (hb.mono h.low.size)⟩
/-- What writes on neither the net nor the list. -/
theorem Bes.turned {w wr w' : World} {F S F' : Nat → Prop} {g : Nat} {lv : Value} {xs : List Packet} (h : Bes w F S g lv xs wr) (k : Turned F' wr w') (h1 : ∀ b, F' b → wr.heap.size ≤ b) : Bes w F S g lv xs w' := by
  have hs := h.low.size
  have hlt := h.net.lt
  have hbod := h.net.bod
  refine ⟨h.net.turned k (fun b hb hf => ?_), h.own.turned k (fun b hb => ⟨Nat.lt_of_lt_of_le hb hs, fun hf => ?_⟩) (fun i hi hf => ?_), h.dis, k.below h.low hs (fun i hi => Nat.le_trans hs (h1 i hi))⟩
  · have := h1 b hf
    rcases hb with hb | hb
    · have := (hlt b hb).2; omega
    · have := (hbod b hb).1; omega
  · have := h1 b hf; have h2 : b < w.heap.size := hb; omega
  · have := h1 i hf; have := (h.own.blk i hi).2; omega
/-- What turns the net alone. -/
theorem Bes.send {w wr w' : World} {F S F' S' : Nat → Prop} {g : Nat} {lv : Value} {xs ys : List Packet} (h : Bes w F S g lv xs wr) (hN : NetIs w.heap.size F' S' w' g ys) (hF : ∀ b, F' b → F b ∨ Fresh wr w' b) (hS : ∀ b, S' b → S b ∨ Fresh wr w' b) (k : Turned F wr w') :
    NetIs w.heap.size F' S' w' g ys ∧ Own PacketS w.heap.size 30 (· < w.heap.size) w' xs lv ∧ (∀ k, lv.ownBlock = some k → ¬ F' k ∧ ¬ S' k) ∧ Below w.heap.size w w' := by
  have hs := h.low.size
  have hlt := h.net.lt
  refine ⟨hN, h.own.turned k (fun b hb => ⟨Nat.lt_of_lt_of_le hb hs, fun hf => ?_⟩) (fun i hi => (h.dis i hi).1), fun i hi => ⟨fun hf => ?_, fun hf => ?_⟩, k.below h.low hs (fun i hi => (hlt i hi).1)⟩
  · have := (hlt b hf).1; have h2 : b < w.heap.size := hb; omega
  · rcases hF i hf with h1 | h1
    · exact (h.dis i hi).1 h1
    · have := (h.own.blk i hi).2; have := h1.1; omega
  · rcases hS i hf with h1 | h1
    · exact (h.dis i hi).2 h1
    · have := (h.own.blk i hi).2; have := h1.1; omega
/-- What turns the list alone. -/
theorem Bes.push {w wr w' : World} {F S : Nat → Prop} {g : Nat} {lv lv' : Value} {ys zs : List Packet} (hN : NetIs w.heap.size F S wr g zs) (hd : ∀ k, lv.ownBlock = some k → ¬ F k ∧ ¬ S k) (hl : Below w.heap.size w wr) (hlv : ∀ k, lv.ownBlock = some k → w.heap.size ≤ k)
    (hO : Own PacketS w.heap.size 30 (· < w.heap.size) w' ys lv') (hg : wr.grownBy w' lv.ownBlock) (hv : lv'.ownBlock = lv.ownBlock ∨ lv'.ownBlock = some wr.heap.size) : NetIs w.heap.size F S w' g zs ∧ Own PacketS w.heap.size 30 (· < w.heap.size) w' ys lv' ∧ (∀ k, lv'.ownBlock = some k → ¬ F k ∧ ¬ S k) ∧ Below w.heap.size w w' := by
  have k : Turned (fun b => lv.ownBlock = some b) wr w' := Turned.of_grown hg (fun i hi => hi)
  have hlt := hN.lt
  have hbod := hN.bod
  refine ⟨hN.turned k (fun b hb hf => ?_), hO, fun i hi => ?_, k.below hl hl.size (fun i hi => hlv i hi)⟩
  · rcases hb with hb | hb
    · exact (hd b hf).1 hb
    · exact (hd b hf).2 hb
  · rcases hv with e | e
    · exact hd i (e ▸ hi)
    · rw [e] at hi
      injection hi with hi
      subst hi
      exact ⟨fun hf => by have := (hlt _ hf).2; omega, fun hf => by have := (hbod _ hf).1; omega⟩
/-- One packet as a slice of its own. -/
theorem SlE.one {S : Nat → Prop} {w : World} {p : Packet} {v0 v1 v2 v3 v4 : Value} (h : PacketS.rep S w p [v0, v1, v2, v3, v4]) (e : TypeId) : SlE PacketS S (w.alloc (.cells #[v0, v1, v2, v3, v4] e)) [p] (.slice (some ⟨w.heap.size, 0, none⟩) 1 1) := by
  have hb := below_alloc (Below.refl w.heap.size w) (.cells #[v0, v1, v2, v3, v4] e)
  exact ⟨_, 1, [v0, v1, v2, v3, v4], rfl, by simp, by omega, fun _ => ⟨_, 0, rfl, by simp, (Row.new w e #[v0, v1, v2, v3, v4]).at⟩, RepL.single (PacketS.below h hb)⟩
theorem packet_slice {T : Nat → Prop} {w : World} {p : Packet} {v0 v1 v2 v3 v4 : Value} (h : PacketS.rep T w p [v0, v1, v2, v3, v4]) (e : TypeId) : PacketS.sl.rep (fun b => b = w.heap.size ∨ T b) (w.alloc (.cells #[v0, v1, v2, v3, v4] e)) [p] [.slice (some ⟨w.heap.size, 0, none⟩) 1 1] := by
  have hb := below_alloc (Below.refl w.heap.size w) (.cells #[v0, v1, v2, v3, v4] e)
  exact Row.sl (r := PacketS) (S := fun b => b = w.heap.size ∨ T b) (xs := [p]) (Row.new w e #[v0, v1, v2, v3, v4]) (.inl rfl) (RepL.single (PacketS.mono (PacketS.below h hb) (fun _ h => .inr h) (Same.refl _ _))) 1 (by simp) (by omega) (by simp [PacketS, Rep.pair, Rep.int, Rep.bool, Rep.num, BytesS, Rep.sl])

theorem own_bytes {k : IntKind} {B base : Nat} {e : TypeId} {S S' : Nat → Prop} {w : World} {xs : List Nat} {v : Value} (h : Own (Rep.num k B) base e S w xs v) : Own (Rep.num k B) base e S' w xs v := by
  obtain ⟨cs, h1, h2⟩ := h
  exact ⟨cs, h1, repL_num.2 (repL_num.1 h2)⟩

theorem packet_body {S : Nat → Prop} {w : World} {p : Packet} {v0 v1 v2 v3 v4 : Value} (h : PacketS.rep S w p [v0, v1, v2, v3, v4]) : BytesS.rep S w p.2.2.2.2 [v4] := by
  obtain ⟨A, cap, e, hb, _⟩ := packet_open h
  simp only [List.cons.injEq, and_true] at e
  obtain ⟨_, _, _, _, rfl⟩ := e
  exact hb
theorem packet_with {S T : Nat → Prop} {w w' : World} {p : Packet} {v0 v1 v2 v3 v4 u : Value} (h : PacketS.rep S w p [v0, v1, v2, v3, v4]) (hu : BytesS.rep T w' p.2.2.2.2 [u]) : PacketS.rep T w' p [v0, v1, v2, v3, u] := by
  obtain ⟨A, cap, e, hb, h1, h2, h3⟩ := packet_open h
  simp only [List.cons.injEq, and_true] at e
  obtain ⟨rfl, rfl, rfl, rfl, rfl⟩ := e
  exact packet_make h1 h2 h3 hu

section
variable {P : Program} {ops : Array Oper} {rest : List Oper} {o : Oper} {a : Act} {Q : Exit → Act → World → Prop} {w : World}
/-- 'append([]byte{}, u...)': a copy of bytes -/
theorem wpList_copy (hgd : o.guard = none) (s x : Operand) (t e : TypeId) (ho : o.op = .call { callee := .builtin .append, args := #[s, x], argTypes := #[t, t] }) (ht : P.underlying t = some (.slice e))
    (hinfo : (P.info? e).map (fun i => (i.zero, i.size, i.bytes)) = some (some (.int .u8 0), 1, 1)) (W : World) (hw : w = W.alloc (.cells #[] e)) (u : Value) (xs : List Nat)
    (hs : a.eval s = .slice (some ⟨W.heap.size, 0, none⟩) 0 0) (hx : a.eval x = u) {S : Nat → Prop} (hu : BytesS.rep S W xs [u])
    (h : ∀ v' w', BytesS.rep (Fresh W w') w' xs [v'] → Below W.heap.size W w' → wpList P ops Q rest (a.put o.dst v') w') : wpList P ops Q (o :: rest) a w := by
  subst hw
  have hb := below_alloc (Below.refl W.heap.size W) (.cells #[] e)
  have hl := sl_bytes hu
  refine wpList_append_rep (r := Rep.num .u8 256) hgd s x t e (.int .u8 0) 1 ho ht hinfo rfl (by show 0 < 1; omega) (by omega) W.heap.size _ [] (S := fun b => b < W.heap.size) u xs hs hx ?_ ?_ ?_ ?_ ?_ ?_
  · exact Own.lit _ _ _ _ _ [] #[] (Nat.le_refl _) rfl 0 rfl (by omega)
  · exact (Rep.num .u8 256).sl.mono ((Rep.num .u8 256).sl.old hu) (fun _ hb => hb) (Same.of_below hb)
  · simpa [Rep.num] using hl
  · exact hb.size
  · intro b hlt
    exact ⟨Nat.lt_of_lt_of_le hlt hb.size, ne_own (by omega)⟩
  · intro v' w1 hown hg _
    have hB1 := hb.grown hg hb.size (fun k hk => own_ge hk (Nat.le_refl _))
    refine h v' w1 ?_ hB1
    exact (own_bytes (S' := Fresh W w1) hown).slFresh hl
end

end Go.Proofs.Ytigdeaeoejpnlaa
