/- The layer net, seventh part: slices.Delete of packets; Take. -/
import Derived.Test.YtigdeaeoejpnlaaNetE
import Derived.Lib.SliceRun
namespace Go.Proofs.Ytigdeaeoejpnlaa
open Go.RowKit

theorem grown_setCells {a : World} {g : Nat} : ∀ (vs : List Value) (o : Nat) {b : World}, a.grownBy b (some g) → a.grownBy (b.setCells g o vs) (some g)
  | [], _, _, h => h
  | v :: r, o, _, h => grown_setCells r (o + 1) (grown_set (i := o) h v)
theorem Row.setCells {g : Nat} {e : TypeId} : ∀ (vs : List Value) (o : Nat) {w : World} {cs : List Value}, Row w g e cs → o + vs.length ≤ cs.length → Row (w.setCells g o vs) g e (cs.take o ++ vs ++ cs.drop (o + vs.length))
  | [], o, w, cs, h, _ => by simpa [World.setCells] using h
  | v :: r, o, w, cs, h, hl => by
    simp only [List.length_cons] at hl
    have h1 := Row.setCells r (o + 1) (h.set o v) (by simp; omega)
    rw [World.setCells]
    rw [List.take_set, List.drop_set_of_lt (by omega)] at h1
    have e1 : (cs.take (o + 1)).set o v = cs.take o ++ [v] := by
      rw [List.take_succ_eq_append_getElem (by omega), List.set_append_right _ _ (by simp; omega)]
      simp
      rw [Nat.min_eq_left (by omega)]
      simp
    rw [e1] at h1
    simpa [List.append_assoc, Nat.add_assoc, Nat.add_comm 1] using h1

def zero5 : List Value := [.int .i64 0, .int .i64 0, .int .u64 0, .bool false, .slice none 0 0]

theorem clear_one (w : World) (ty : TypeId) (k o c : Nat) {e : TypeId} {cs : List Value} (h : Row w k e cs) (hl : o + 5 ≤ cs.length) :
    (Builtin.clear_ #[26] ty #[.slice (some ⟨k, o, none⟩) 1 c]).run Try.prog w = .ok (.tuple #[]) (w.setCells k o zero5) := by
  have hv : ∀ w, (zeroValue 30).run Try.prog w = .ok (.agg zero5.toArray) w := by
    intro w
    obtain ⟨i0, hi0, hzz⟩ := Option.map_eq_some_iff.1 Try.info30
    simp only [Prod.mk.injEq] at hzz
    simp [zeroValue, typeInfo, hi0, hzz.1, zero5]
  have hzc : (Builtin.zeroCells (Value.agg zero5.toArray).cells 1).toList = zero5 := by kernel_rfl
  have hst := run_storeCells_cells (P := Try.prog) k o zero5 0 w (fun j hj => by
      have hj' : j < 5 := hj
      rw [show o + 0 + j = o + j by omega, h.cell (o + j) (by omega)]; rfl) (fun j _ => by rw [show o + 0 + j = o + j by omega]; exact h.frozen _) (by intro v hv'; simp only [zero5, List.mem_cons, List.not_mem_nil, or_false] at hv'; rcases hv' with rfl | rfl | rfl | rfl | rfl <;> rfl)
  simp only [Nat.add_zero] at hst
  simp [Builtin.clear_, run_underlying Try.underlying26, hv, hzc, hst]

def DelPost (k n cap i : Nat) (cur : List Value) (w : World) (e : Ending) (w' : World) : Prop :=
  e = .returned (.slice (some ⟨k, 0, none⟩) (n - 1) cap) ∧ w.grownBy w' (some k) ∧ ∃ cur', Row w' k 30 cur' ∧ cur'.length = cur.length ∧ cur'.take ((n - 1) * 5) = cur.take (i * 5) ++ (cur.take (n * 5)).drop ((i + 1) * 5)

set_option maxHeartbeats 4000000 in
set_option maxRecDepth 100000 in
theorem delete_calls {w : World} {k n cap i : Nat} {cur : List Value} (hrow : Row w k 30 cur) (hi : i < n) (hnc : n ≤ cap) (hlen : cur.length = cap * 5) (h1 : ∀ c ∈ cur.take (n * 5), c.oneCell' = true) (hm : n ≤ 4096) (hm2 : cap ≤ 9223372036854775807) :
    Calls Try.prog 48 #[.slice (some ⟨k, 0, none⟩) n cap, .int .i64 (i : Int), .int .i64 ((i + 1 : Nat) : Int)] w (DelPost k n cap i cur w) := by
  obtain ⟨i0, hi0, hzz⟩ := Option.map_eq_some_iff.1 Try.info30
  simp only [Prod.mk.injEq] at hzz
  obtain ⟨hz0, hz1, hz2⟩ := hzz
  obtain ⟨news, hnews⟩ : ∃ news, news = (cur.take (n * 5)).drop ((i + 1) * 5) := ⟨_, rfl⟩
  have hnl : news.length = (n - (i + 1)) * 5 := by rw [hnews]; simp; omega
  obtain ⟨m, hm0⟩ : ∃ m, m = n - (i + 1) := ⟨_, rfl⟩
  rw [← hm0] at hnl
  have hrd : Row w.drew k 30 cur := hrow
  obtain ⟨A, hA, hsrc⟩ : ∃ A : Addr, (if cap = i + 1 then some (⟨k, 0, none⟩ : Addr) else some ⟨k, (i + 1) * 5, none⟩) = some A ∧ Hid (∀ t u, news[t]? = some u → w.drew.cell? (A.add t) = some u) := by
    by_cases h : cap = i + 1
    · refine ⟨⟨k, 0, none⟩, by simp [h], fun t u hu => ?_⟩
      have h0 : news.length = 0 := by rw [hnl]; omega
      rw [List.length_eq_zero_iff.1 h0] at hu
      simp at hu
    · refine ⟨⟨k, (i + 1) * 5, none⟩, by simp [h], fun t u hu => ?_⟩
      obtain ⟨ht, hu⟩ := List.getElem?_eq_some_iff.1 hu
      rw [hnl] at ht
      have e : (⟨k, (i + 1) * 5, none⟩ : Addr).add t = ⟨k, (i + 1) * 5 + t, none⟩ := by unfold Addr.add; split <;> simp_all
      rw [e, hrd.cell _ (by omega), ← hu]
      simp [hnews]
  have s1 : Hid (news.length = m * 5) := hnl
  have s2 : Hid (∀ u ∈ news, u.oneCell' = true) := by
    intro u hu
    rw [hnews] at hu
    exact h1 u (List.mem_of_mem_drop hu)
  have s3 : Hid (∀ t, t < news.length → (w.drew.cell? ⟨k, 0 + i * 5 + t, none⟩).isSome = true ∧ w.drew.frozen? ⟨k, 0 + i * 5 + t, none⟩ = false) := by
    intro t ht
    rw [hnl] at ht
    rw [hrd.cell (0 + i * 5 + t) (by omega)]
    exact ⟨rfl, hrd.frozen _⟩
  obtain ⟨W1, hW1⟩ : ∃ W1, W1 = w.drew.setCells k (0 + i * 5) news := ⟨_, rfl⟩
  have r1 := Row.setCells news (0 + i * 5) hrd (by omega)
  rw [← hW1] at r1
  have g1 : w.grownBy W1 (some k) := by rw [hW1]; exact grown_setCells _ _ (grown_drew (grown_refl w _))
  obtain ⟨cur1, hcur1⟩ : ∃ cur1, cur1 = cur.take (0 + i * 5) ++ news ++ cur.drop (0 + i * 5 + news.length) := ⟨_, rfl⟩
  rw [← hcur1] at r1
  have hl1 : cur1.length = cap * 5 := by rw [hcur1]; simp; omega
  have hmn : n - 1 = i + m := by omega
  have ht1 : Hid (cur1.take ((n - 1) * 5) = cur.take (i * 5) ++ news) := by
    show _ = _
    rw [hcur1, Nat.zero_add, List.take_left' (by simp [hnl]; omega)]
  have hcl := fun ty => clear_one W1 ty k ((i + m) * 5) (cap - (i + m)) r1 (by omega)
  have r2 := Row.setCells zero5 ((i + m) * 5) r1 (by show _ + 5 ≤ _; omega)
  have g2 := grown_setCells zero5 ((i + m) * 5) g1
  have hW : Hid (W1 = w.drew.setCells k (0 + i * 5) news) := hW1
  have Hm0 := hid hm0
  have Hmn := hid hmn
  have Hlen := hid hlen
  have Hl1 := hid hl1
  have Hnews := hid hnews
  have G2 := hid g2
  have R2 := hid r2
  have i1 : i ≤ cap := by omega
  have i2 : i + 1 ≤ cap := by omega
  have i3 : i + 1 ≤ n := by omega
  have i4 : n - (i + 1) = m := hm0.symm
  have i5 : (i : Int) + 1 ≤ (n : Int) := by omega
  have i6 : (0 : Int) ≤ (i : Int) + 1 := by omega
  have i7 : (i : Int) + (m : Int) ≤ (n : Int) := by omega
  have i8 : (0 : Int) ≤ (i : Int) + (m : Int) := by omega
  have i9 : n - (i + m) = 1 := by omega
  have i10 : ¬ cap = i + m := by omega
  have i11 : i + m ≤ n := by omega
  have i12 : ((i : Int) == (i : Int) + 1) = false := by simp; omega
  clear hW1 hm0 hmn hlen hl1 hnews hcur1 hnl r1 r2 g1 g2 hrd hrow
  go_enter Try.func48, Try.ntmps48
  go_wp2_with fail
  go_region_law (refine step_append_room rfl (.tmp 22) (.tmp 25) 26 rfl 30 i0 5 Try.underlying26 hi0 hz1 k 0 i cap (by simp [Act.eval, Act.put]) A m (cap - (i + 1)) news (by simp [Act.eval, Act.put]) s1.out hsrc.out s2.out (by omega) s3.out ?_; rw [← hW.out])
  go_wp2
  go_ret
  refine ⟨by rw [Hmn.out]; rfl, G2.out, _, R2.out, ?_, ?_⟩
  · have := Hl1.out
    have := Hlen.out
    simp [zero5]; omega
  · have e := Hl1.out
    have h0 := ht1.out
    rw [Hmn.out] at h0 ⊢
    rw [← Hnews.out, ← h0, List.append_assoc, List.take_left' (by simp; omega)]

/-- The net behind what Take did. -/
theorem NetIs.taken {B : Nat} {F S : Nat → Prop} {wo w3 : World} {g k cap i : Nat} {xs : List Packet} {cs cur' : List Value} (hN : NetIs B F S wo g xs) (hi : i < xs.length)
    (h1 : Row wo g 79 [.slice (some ⟨k, 0, none⟩) xs.length cap]) (h3 : F k ∧ k ≠ g) (hB : B ≤ k) (hcs : RepL PacketS S wo xs cs) (hcap : xs.length ≤ cap) (hm : cap ≤ 9223372036854775807)
    (hg : wo.grownBy w3 (some k)) (hr : Row w3 k 30 cur') (hl : cur'.length = cap * 5) (ht : cur'.take ((xs.length - 1) * 5) = cs.take (i * 5) ++ cs.drop ((i + 1) * 5)) :
    NetIs B F S (w3.setCell ⟨g, 0, none⟩ (.slice (some ⟨k, 0, none⟩) (xs.length - 1) cap)) g (xs.eraseIdx i) ∧ Turned F wo (w3.setCell ⟨g, 0, none⟩ (.slice (some ⟨k, 0, none⟩) (xs.length - 1) cap)) := by
  have hself := hN.self
  have hgo := hN.lt g hself
  have hln : (xs.eraseIdx i).length = xs.length - 1 := by rw [List.length_eraseIdx, if_pos hi]
  have hturn : Turned F wo (w3.setCell ⟨g, 0, none⟩ (.slice (some ⟨k, 0, none⟩) (xs.length - 1) cap)) := (Turned.of_grown (F := F) hg (fun k' hk => by injection hk with hk; exact hk ▸ h3.1)).set hself _
  refine ⟨⟨⟨_, by simpa using (h1.grown hg (by intro e; injection e with e; exact h3.2 e.symm)).set 0 (.slice (some ⟨k, 0, none⟩) (xs.length - 1) cap), ⟨cs.take (i * 5) ++ cs.drop ((i + 1) * 5), ⟨?_, .inr ⟨k, cap, cur'.toArray, by rw [hln], hB, hr.other (a := ⟨g, 0, none⟩) h3.2 _, by rw [hln]; omega, by simpa [maxLen] using hm, by simpa [PacketS, Rep.pair, Rep.int, Rep.bool, Rep.num, BytesS, Rep.sl] using hl, ?_⟩⟩, ?_⟩, fun k' hk => ?_⟩, hself, fun b hb => ⟨(hN.lt b hb).1, ?_⟩, fun b hb => ⟨?_, (hN.bod b hb).2⟩, ?_⟩, hturn⟩
  · have e1 := (hcs.take i).len
    have e2 := (hcs.drop (i + 1)).len
    have e3 : PacketS.sz = 5 := rfl
    rw [e3] at e1 e2
    rw [List.length_append, e1, e2, hln, e3]
    simp
    omega
  · rw [hln]; exact ht
  · have e := ((hcs.take i).append (hcs.drop (i + 1)))
    rw [← List.eraseIdx_eq_take_drop_succ] at e
    exact e.mono (fun _ h => h) (hturn.same hN.bod)
  · have : k = k' := by simpa [Value.ownBlock] using hk
    exact this ▸ h3
  · exact Nat.lt_of_lt_of_le (hN.lt b hb).2 hturn.size
  · exact Nat.lt_of_lt_of_le (hN.bod b hb).1 hturn.size
  · have := hN.len; omega

end Go.Proofs.Ytigdeaeoejpnlaa
