/- The layer net, third part: Send. -/
import Derived.Test.YtigdeaeoejpnlaaNetB
import Derived.Deep.QuietTactic
import Derived.Deep.DeepCutAuto
import Derived.Deep.CutBlock
import Derived.RegionTactic
import Derived.BigRegion
import Derived.Deep.RegionLaw
namespace Go.Proofs.Ytigdeaeoejpnlaa
open Go.RowKit

def SendPost (B : Nat) (F S : Nat → Prop) (w : World) (g : Nat) (xs ps : List Packet) (e : Ending) (w' : World) : Prop :=
  e = .returned (.int .i64 ((ps.length - (4096 - xs.length) : Nat) : Int)) ∧ ∃ F' S', NetIs B F' S' w' g (xs ++ ps.take (4096 - xs.length)) ∧ (∀ b, F' b → F b ∨ Fresh w w' b) ∧ (∀ b, S' b → S b ∨ Fresh w w' b) ∧ Turned F w w'

section
variable {P : Program} {ops : Array Oper} {o : Oper} {a : Act} {K : Act → World → Prop} {Q : Exit → Act → World → Prop} {E : Prop} {w : World}
/-- 'append' onto a slice of one's own at a step of a region that draws -/
theorem step_append_rep {α : Type} {r : Rep α} (hgd : o.guard = none) (s x : Operand) (t e : TypeId) (z : Value) (bytes : Nat)
    (ho : o.op = .call { callee := .builtin .append, args := #[s, x], argTypes := #[t, t] }) (ht : P.underlying t = some (.slice e))
    (hinfo : (P.info? e).map (fun i => (i.zero, i.size, i.bytes)) = some (some z, r.sz, bytes)) (hz : z.cells.size = r.sz) (hsz : 0 < r.sz) (hby : 0 < bytes)
    (base : Nat) (v : Value) (xs : List α) {S : Nat → Prop} (u : Value) (ys : List α) (hs : a.eval s = v) (hx : a.eval x = u) (hown : Own r base e S w xs v) (hu : r.sl.rep S w ys [u])
    (hlen : (xs.length + ys.length) * bytes ≤ 140737488355328) (hbase : base ≤ w.heap.size) (hS : ∀ b, S b → b < w.heap.size ∧ some b ≠ v.ownBlock)
    (h : ∀ v' w', Own r base e S w' (xs ++ ys) v' → w.grownBy w' v.ownBlock → (v'.ownBlock = v.ownBlock ∨ v'.ownBlock = some w.heap.size) → K (a.put o.dst v') w') :
    if Region.wanted o (yielded ops a.tmps) = true then Oper.wp P o a w K Q else E := by
  have hw : Region.wanted o (yielded ops a.tmps) = true := by simp [Region.wanted, hgd]
  rw [if_pos hw]
  obtain ⟨v', w', hr, h1, h2, h3⟩ := run_append_rep (P := P) t o.type e z bytes ht hinfo hz hsz hby base v xs hown u ys hu hlen hbase hS
  unfold Oper.wp execOp
  simp only [ho, resolve, invoke, builtin, Sem.run_bind, Sem.run_pure, Result.andThen_ok, List.map_toArray, List.map_cons, List.map_nil, hs, hx, hr]
  exact h v' w' h1 h2 h3
end

theorem Try.info30 : (Try.prog.info? 30).map (fun i => (i.zero, i.size, i.bytes)) = some (some (.agg #[.int .i64 0, .int .i64 0, .int .u64 0, .bool false, .slice none 0 0]), 5, 56) := by kernel_rfl

/-- A packet more: what the append and the store make of a net. -/
theorem NetIs.pushed {B : Nat} {F S : Nat → Prop} {wo w1 w2 : World} {g : Nat} {xs : List Packet} {p : Packet} {sv v' : Value} (hN : NetIs B F S wo g xs) (hlen : xs.length < 4096)
    (h1 : Row wo g 79 [sv]) (h3 : ∀ k, sv.ownBlock = some k → F k ∧ k ≠ g)
    (hb : Below wo.heap.size wo w1) (hown : Own PacketS B 30 (fun b => S b ∨ Fresh wo w1 b) w2 (xs ++ [p]) v') (hg : w1.grownBy w2 sv.ownBlock) (hv : v'.ownBlock = sv.ownBlock ∨ v'.ownBlock = some w1.heap.size) :
    ∃ F' S', NetIs B F' S' (w2.setCell ⟨g, 0, none⟩ v') g (xs ++ [p]) ∧ (∀ b, F' b → F b ∨ Fresh wo (w2.setCell ⟨g, 0, none⟩ v') b) ∧ (∀ b, S' b → S b ∨ Fresh wo (w2.setCell ⟨g, 0, none⟩ v') b) ∧ Turned F wo (w2.setCell ⟨g, 0, none⟩ v') := by
  have hself := hN.self
  have hlt := hN.lt
  have hsz1 := hb.size
  have hsz2 := hg.size
  have hgo := hlt g hself
  have hsv : ∀ k, sv.ownBlock = some k → k < wo.heap.size := fun k hk => (hlt k (h3 k hk).1).2
  have hrow : Row w2 g 79 [sv] := (h1.below hgo.2 hb).grown hg (fun e => (h3 g e.symm).2 rfl)
  have hS : ∀ b, S b ∨ Fresh wo w1 b → b < w2.heap.size ∧ ¬ F b ∧ some b ≠ v'.ownBlock := by
    rintro b (hb' | hb')
    · obtain ⟨k1, k2⟩ := hN.bod b hb'
      refine ⟨by omega, k2, ?_⟩
      rcases hv with hv | hv <;> rw [hv]
      · intro e; exact k2 (h3 b e.symm).1
      · simp; omega
    · have k1 := hb'.1
      have k2 := hb'.2
      refine ⟨by omega, fun hf => by have := (hlt b hf).2; omega, ?_⟩
      rcases hv with hv | hv <;> rw [hv]
      · intro e; have := hsv b e.symm; omega
      · simp; omega
  have hblk : ∀ k, v'.ownBlock = some k → (F k ∨ Fresh wo w2 k) ∧ k ≠ g := by
    intro k hk
    have k2 := (hown.blk k hk).2
    rcases hv with hv | hv
    · have := h3 k (hv ▸ hk); exact ⟨.inl this.1, this.2⟩
    · rw [hv] at hk; injection hk with hk; subst hk
      exact ⟨.inr ⟨hsz1, k2⟩, by omega⟩
  refine ⟨fun b => F b ∨ some b = v'.ownBlock, fun b => S b ∨ Fresh wo w1 b, ⟨⟨v', by simpa using hrow.set 0 v', ?_, fun k hk => ⟨.inr hk.symm, (hblk k hk).2⟩⟩, .inl hself, ?_, fun b hb' => ⟨by simpa using (hS b hb').1, ?_⟩, by simp; omega⟩, ?_, ?_, ?_⟩
  · exact hown.grown (grown_set (grown_refl w2 (some g)) v') (by
      rcases hq : v'.ownBlock with _ | k
      · exact .inl rfl
      · right; intro e; injection e with e; exact (hblk k hq).2 e) (fun b hb' => ⟨(hS b hb').1, by intro e; injection e with e; subst e; exact (hS b hb').2.1 hself⟩)
  · rintro b (h | h)
    · have := hlt b h; exact ⟨this.1, by simp; omega⟩
    · exact ⟨(hown.blk b h.symm).1, by simpa using (hown.blk b h.symm).2⟩
  · rintro (h | h)
    · exact (hS b hb').2.1 h
    · exact (hS b hb').2.2 h
  · rintro b (h | h)
    · exact .inl h
    · rcases (hblk b h.symm).1 with h | h
      · exact .inl h
      · exact .inr ⟨h.1, by simpa using h.2⟩
  · rintro b (h | h)
    · exact .inl h
    · exact .inr ⟨h.1, by have := h.2; simp; omega⟩
  · exact ((Turned.of_below (F := F) hb).trans (Turned.of_grown (F := F) hg (fun k hk => (h3 k hk).1)) (fun i hi => .inl hi)).set hself v'

/-- What 'append' asks, where the packet's copy lies in a block of its own. -/
theorem NetIs.ready {B : Nat} {F S : Nat → Prop} {wo W w1 : World} {g : Nat} {xs : List Packet} {p : Packet} {sv v0 v1 v2 v3 v4 : Value} (hN : NetIs B F S wo g xs) (hlen : xs.length < 4096)
    (h2 : Own PacketS B 30 S wo xs sv) (h3 : ∀ k, sv.ownBlock = some k → F k ∧ k ≠ g)
    (hW : wo.heap.size ≤ W.heap.size) (hb : Below wo.heap.size wo w1) (hd : PacketS.rep (Fresh W w1) w1 p [v0, v1, v2, v3, v4]) (o : Obj) (ho : o = .cells #[v0, v1, v2, v3, v4] 30) :
    (Own PacketS B 30 (fun b => S b ∨ Fresh wo (w1.alloc o) b) (w1.alloc o) xs sv ∧ PacketS.sl.rep (fun b => S b ∨ Fresh wo (w1.alloc o) b) (w1.alloc o) [p] [.slice (some ⟨w1.heap.size, 0, none⟩) 1 1]) ∧
    ((xs.length + [p].length) * 56 ≤ 140737488355328 ∧ B ≤ (w1.alloc o).heap.size) ∧ (∀ b, S b ∨ Fresh wo (w1.alloc o) b → b < (w1.alloc o).heap.size ∧ some b ≠ sv.ownBlock) ∧ Below wo.heap.size wo (w1.alloc o) := by
  subst ho
  have hb' := below_alloc hb (.cells #[v0, v1, v2, v3, v4] 30)
  have hB := hN.lt g hN.self
  have hsz := hb.size
  refine ⟨⟨(h2.below hb' (fun b hb => (hN.bod b hb).1)).weaken (Nat.le_refl _) (fun _ h => .inl h), ?_⟩, ⟨by simp; omega, by simp; omega⟩, ?_, hb'⟩
  · refine Row.sl (r := PacketS) (xs := [p]) (Row.new w1 _ #[v0, v1, v2, v3, v4]) (.inr ⟨hsz, by simp⟩) ?_ 1 (by simp) (by omega) (by simp [PacketS, Rep.pair, Rep.int, Rep.bool, Rep.num, BytesS, Rep.sl])
    refine RepL.single (PacketS.mono hd (fun b hb => .inr ⟨Nat.le_trans hW hb.1, by have := hb.2; simp; omega⟩) (fun b hb => ?_))
    exact heap_alloc_old w1 _ hb.2
  · rintro b (h | h)
    · obtain ⟨k1, k2⟩ := hN.bod b h
      exact ⟨by simp; omega, fun e => k2 (h3 b e.symm).1⟩
    · refine ⟨h.2, fun e => ?_⟩
      have := (hN.lt b (h3 b e.symm).1).2
      have := h.1
      omega

theorem NetIs.kept {wo W1 w2 : World} {g : Nat} {F : Nat → Prop} {sv : Value} (hg : g < wo.heap.size) (h3 : ∀ k, sv.ownBlock = some k → F k ∧ k ≠ g) (hb : Below wo.heap.size wo W1) (h : W1.grownBy w2 sv.ownBlock) :
    w2.cell? ⟨g, 0, none⟩ = wo.cell? ⟨g, 0, none⟩ ∧ w2.frozen? ⟨g, 0, none⟩ = wo.frozen? ⟨g, 0, none⟩ := by
  have e : w2.heap[g]? = wo.heap[g]? := (h.block g (Nat.lt_of_lt_of_le hg hb.size) (fun e => (h3 g e.symm).2 rfl)).trans (hb.block g hg)
  exact ⟨World.cell?_of_block e, World.frozen?_of_block e⟩

/-- a packet's five cells in a slice -/
theorem packet_at {S : Nat → Prop} {w : World} {xs : List Packet} {A : Option Addr} {n cap : Nat} (h : PacketS.sl.rep S w xs [.slice A n cap]) (i : Nat) (hi : i < xs.length) :
    ∃ b o a1 a2 a3 a4 A' n' cap', A = some ⟨b, o, none⟩ ∧ S b ∧ PacketS.rep S w xs[i] [.int .i64 a1, .int .i64 a2, .int .u64 a3, .bool a4, .slice A' n' cap'] ∧ w.cell? ⟨b, o + i * 5, none⟩ = some (.int .i64 a1) ∧ w.cell? ⟨b, o + i * 5 + 1, none⟩ = some (.int .i64 a2) ∧
      w.cell? ⟨b, o + i * 5 + 2, none⟩ = some (.int .u64 a3) ∧ w.cell? ⟨b, o + i * 5 + 3, none⟩ = some (.bool a4) ∧ w.cell? ⟨b, o + i * 5 + 4, none⟩ = some (.slice A' n' cap') := by
  obtain ⟨b, o, ys, e, hb, ha, hr⟩ := sl_at h i hi
  obtain ⟨A', cap', rfl, _⟩ := packet_open hr
  exact ⟨b, o, _, _, _, _, _, _, _, e, hb, hr, ha.cell 0 (by simp), ha.cell 1 (by simp), ha.cell 2 (by simp), ha.cell 3 (by simp), ha.cell 4 (by simp)⟩

set_option maxHeartbeats 2000000 in
set_option maxRecDepth 100000 in
theorem send_calls {B : Nat} {F S T : Nat → Prop} {w : World} {g : Nat} {xs ps : List Packet} {u : Value} (hN : NetIs B F S w g xs) (hu : PacketS.sl.rep T w ps [u]) (hT : ∀ b, T b → ¬ F b) :
    Calls Try.prog 14 #[.pointer (some ⟨g, 0, none⟩), u] w (SendPost B F S w g xs ps) := by
  obtain ⟨A, cap, rfl, hcap, hcm⟩ := sl_open hu
  go_enter Try.func14, Try.ntmps14
  go_wp2_with fail
  go_loopw [9] (fun q wr => ∃ i : Nat, q = .int .i64 (i : Int) ∧ i ≤ ps.length ∧ xs.length + i ≤ 4096 ∧ (∃ F' S', NetIs B F' S' wr g (xs ++ ps.take i) ∧ (∀ b, F' b → F b ∨ Fresh w wr b) ∧ (∀ b, S' b → S b ∨ Fresh w wr b)) ∧ Turned F w wr) (fun q _ => (ps.length : Nat) - (intOf q).toNat)
  case atStart => exact ⟨0, rfl, by omega, hN.len, ⟨F, S, by simpa using hN, fun b hb => .inl hb, fun b hb => .inl hb⟩, Turned.refl _ _⟩
  case round =>
    obtain ⟨i, rfl, hi, hxi, ⟨F', S', hN', hF', hS'⟩, hturn⟩ := hrel
    obtain ⟨wo, rfl⟩ : ∃ wo : World, wo = wr := ⟨_, rfl⟩
    have hlt := hN'.lt
    have hgl := (hN'.lt g hN'.self).2
    have hu' : PacketS.sl.rep T wo ps [.slice A ps.length cap] := PacketS.sl.mono (PacketS.sl.live hu) (fun _ hb => hb.1) (hturn.same (fun b hb => ⟨hb.2, hT b hb.1⟩))
    obtain ⟨A', cap', hc, h1, h2, hf, n1', n2, n3⟩ := hN'.open
    obtain ⟨L, hL⟩ : ∃ L, L = (xs ++ ps.take i).length := ⟨_, rfl⟩
    rw [← hL] at hc h1 n1' n2 n3
    have hL' : L = xs.length + i := by rw [hL]; simp; omega
    clear hL
    by_cases hlt' : i < ps.length
    · obtain ⟨b, o, a1, a2, a3, a4, A1, n1, cap1, rfl, hb, hrep, c0, c1, c2, c3, c4⟩ := packet_at hu' i hlt'
      by_cases hfull : xs.length + i < 4096
      · have hd : L < 4096 := by omega
        have HL := hid hL'
        clear hL'
        go_upto_region 6 with (fail)
        have hbox := (Below.refl wo.heap.size wo).alloc (Nat.le_refl _) (.cells #[.int .i64 a1, .int .i64 a2, .int .u64 a3, .bool a4, .slice A1 n1 cap1] 30)
        obtain ⟨pk, hpk⟩ : ∃ pk, pk = ps[i] := ⟨_, rfl⟩
        rw [← hpk] at hrep
        have Hpk := hid hpk
        clear hpk
        have hboxd := hbox.drew
        have hrepB := PacketS.below hrep hboxd
        have hxl : (xs ++ ps.take i).length < 4096 := by have := HL.out; simp; omega
        have hln : Hid ((xs ++ ps.take i ++ [pk]).length = xs.length + (i + 1)) := by show _ = _; simp; omega
        go_region_law (first
          | (go_simp; go_at_call 46
             refine (own_calls hrepB).mono ?_
             rintro e w1 ⟨⟨ds, rfl, hds⟩, hw1⟩
             obtain ⟨A2, cap2, rfl, hbody, q1, q2, q3⟩ := packet_open hds
             have hb1 := below_trans hboxd hw1
             have hgl1 := Nat.lt_of_lt_of_le hgl hb1.size
             have k1 : w1.cell? ⟨g, 0, none⟩ = some (.slice A' L cap') := (World.cell?_of_block (w := wo) (hb1.block g hgl)).trans hc
             have k2 : w1.frozen? ⟨g, 0, none⟩ = false := (World.frozen?_of_block (w := wo) (hb1.block g hgl)).trans hf)
          | (have hr := NetIs.ready (p := pk) hN' hxl n2 n3 hboxd.size hb1 hds _ rfl
             refine step_append_rep (r := PacketS) rfl (.tmp 28) (.tmp 31) 26 30 _ 56 rfl Try.underlying26 Try.info30 rfl (by decide) (by decide) B _ (xs ++ ps.take i) _ [pk] rfl rfl hr.1.1 hr.1.2 hr.2.1.1 hr.2.1.2 hr.2.2.1 ?_
             intro v' w2 p1 p2 p3
             obtain ⟨A3, cap3, rfl, p4, p5⟩ := p1.val
             have hp := NetIs.pushed hN' hxl n1' n3 hr.2.2.2 p1 p2 p3
             have hq := NetIs.kept hgl n3 hr.2.2.2 p2
             have k3 : w2.cell? ⟨g, 0, none⟩ = some (.slice A' L cap') := hq.1.trans hc
             have k4 : w2.frozen? ⟨g, 0, none⟩ = false := hq.2.trans hf))
        all_goals
          go_wp2_with fail
          go_roundw
          case rel =>
            rw [hln.out] at hp
            obtain ⟨F2, S2, hN2, hF2, hS2, ht2⟩ := hp
            refine ⟨i + 1, by simp, by omega, by omega, ⟨F2, S2, ?_, fun b hb => ?_, fun b hb => ?_⟩, hturn.trans ht2 (fun b hb => ?_)⟩
            · rw [List.append_assoc, Hpk.out, List.take_append_getElem] at hN2; exact hN2
            · rcases hF2 b hb with h | h
              · rcases hF' b h with h | h
                · exact .inl h
                · exact .inr ⟨h.1, Nat.lt_of_lt_of_le h.2 ht2.size⟩
              · exact .inr ⟨Nat.le_trans hturn.size h.1, h.2⟩
            · rcases hS2 b hb with h | h
              · rcases hS' b h with h | h
                · exact .inl h
                · exact .inr ⟨h.1, Nat.lt_of_lt_of_le h.2 ht2.size⟩
              · exact .inr ⟨Nat.le_trans hturn.size h.1, h.2⟩
            · rcases hF' b hb with h | h
              · exact .inl h
              · exact .inr h.1
          case measure => simp [intOf]; omega
      have hd : 4096 ≤ L := by omega
      have HL := hid hL'
      clear hL'
      have hbox := (Below.refl wo.heap.size wo).alloc (Nat.le_refl _) (.cells #[.int .i64 a1, .int .i64 a2, .int .u64 a3, .bool a4, .slice A1 n1 cap1] 30)
      go_wp2_with fail
      go_ret
      have h0 : i = 4096 - xs.length := by omega
      refine ⟨ret_int (by omega), F', S', ?_, ?_, ?_, ?_⟩
      · rw [← h0]; exact hN'.below hbox
      · intro b hb
        rcases hF' b hb with h | h
        · exact .inl h
        · exact .inr ⟨h.1, Nat.lt_of_lt_of_le h.2 hbox.size⟩
      · intro b hb
        rcases hS' b hb with h | h
        · exact .inl h
        · exact .inr ⟨h.1, Nat.lt_of_lt_of_le h.2 hbox.size⟩
      · exact hturn.trans (Turned.of_below (F := F') hbox) (fun b hb => (hF' b hb).imp id (fun h => h.1))
    · have h0 : i = ps.length := by omega
      subst h0
      go_wp2_with fail
      go_ret
      refine ⟨ret_int (by omega), F', S', ?_, hF', hS', hturn⟩
      rw [List.take_of_length_le (by omega)] at hN' ⊢
      exact hN'

end Go.Proofs.Ytigdeaeoejpnlaa
