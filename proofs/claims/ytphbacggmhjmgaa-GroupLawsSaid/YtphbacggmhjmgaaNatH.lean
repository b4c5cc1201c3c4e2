/- The layer nat, eighth part: a quotient and a rest. -/
import Derived.Test.YtphbacggmhjmgaaNatG
import Derived.Test.YtphbacggmhjmgaaLen
import Derived.Test.YtphbacggmhjmgaaPlLong
import Derived.Deep.RegionHeld3
import Derived.Outline
namespace Go.Proofs.Ytphbacggmhjmgaa
open Go.RowKit

/-- what nat.Div answers -/
def DivPost (m n : Nat) (w : World) (e : Ending) (w' : World) : Prop :=
  if B64 ^ 64 ≤ m ∨ B64 ^ 64 ≤ n then e = .returned (.tuple #[.slice none 0 0, .slice none 0 0, errV 2])
  else if n = 0 then e = .returned (.tuple #[.slice none 0 0, .slice none 0 0, errV 4])
  else ∃ q r, e = .returned (.tuple #[q, r, .nilIface]) ∧ NumN.rep (Fresh w w') w' (m / n) [q] ∧ NumN.rep (Fresh w w') w' (m % n) [r]

theorem canon_zero {xs : List Nat} (hc : Pl.Canon xs) (h : Pl.val B64 xs = 0) : xs.length = 0 := by
  rcases Nat.eq_zero_or_pos xs.length with h0 | h0
  · exact h0
  · have := hc.val_pos B64_pos h0; omega

theorem rep_drew {α : Type} (r : Rep α) {S : Nat → Prop} {w : World} {x : α} {cs : List Value} (h : r.rep S w x cs) : r.rep S w.drew x cs := r.mono h (fun _ h => h) (fun _ _ => rfl)

theorem top_lt {p : List Nat} {s : Nat} (hp : 0 < p.length) (hd : Pl.Dig B64 p) (hs : s = 64 - Lib.bitLen p[p.length - 1]) : Pl.val B64 p * 2 ^ s < B64 ^ p.length := by
  have h1 := Pl.val_take_succ B64 p (p.length - 1) (by omega)
  rw [show p.length - 1 + 1 = p.length by omega, List.take_length] at h1
  have h2 := Pl.val_lt (hd.take (p.length - 1))
  rw [List.length_take, Nat.min_eq_left (by omega)] at h2
  have h3 := hd.at (p.length - 1) (by omega)
  have h4 := bitLen_lt p[p.length - 1] (by unfold B64 at h3; omega)
  have h5 := bitLen_le p[p.length - 1] h3
  have h6 : (p[p.length - 1] + 1) * 2 ^ s ≤ B64 := by
    have : (p[p.length - 1] + 1) * 2 ^ s ≤ 2 ^ Lib.bitLen p[p.length - 1] * 2 ^ s := Nat.mul_le_mul_right _ h4
    rw [← Nat.pow_add, show Lib.bitLen p[p.length - 1] + s = 64 by omega] at this
    exact this
  have h7 : Pl.val B64 p < B64 ^ (p.length - 1) * (p[p.length - 1] + 1) := by rw [Nat.mul_add]; omega
  have h8 : Pl.val B64 p * 2 ^ s < B64 ^ (p.length - 1) * (p[p.length - 1] + 1) * 2 ^ s := Nat.mul_lt_mul_of_pos_right h7 (Nat.two_pow_pos _)
  have h9 : B64 ^ (p.length - 1) * ((p[p.length - 1] + 1) * 2 ^ s) ≤ B64 ^ (p.length - 1) * B64 := Nat.mul_le_mul_left _ h6
  rw [← Nat.pow_succ, show (p.length - 1).succ = p.length by omega] at h9
  rw [Nat.mul_assoc] at h8
  omega

theorem row_newAt (w : World) (e : TypeId) (cs : Array Value) (n : Nat) (hn : n = w.heap.size) : Row (w.alloc (.cells cs e)) n e cs.toList := by
  subst hn; exact Row.new w e cs

/-- behind the two shifts: a's digits, b's digits -/
def Shifted (w : World) (m n a b s : Nat) (u v : Value) (wc : World) : Prop :=
  ∃ gu gv us vs, u = .slice (some ⟨gu, 0, none⟩) (m + 1) (m + 1) ∧ v = .slice (some ⟨gv, 0, none⟩) n (n + 1) ∧ gu ≠ gv ∧ w.heap.size ≤ gu ∧ w.heap.size ≤ gv ∧ us.length = m + 1 ∧ Pl.Dig B64 us ∧ Pl.val B64 us = a * 2 ^ s ∧
    Row wc gu 65 (nums .u64 us) ∧ vs.length = n + 1 ∧ Pl.Dig B64 vs ∧ Pl.val B64 vs = b * 2 ^ s ∧ Row wc gv 65 (nums .u64 vs) ∧ Below w.heap.size w wc

set_option maxHeartbeats 8000000 in
set_option maxRecDepth 100000 in
theorem div_main {w : World} {S : Nat → Prop} {m n : Nat} {va vb : Value} (ha : RawN.rep S w m [va]) (hb : RawN.rep S w n [vb]) (hm : m < B64 ^ 64) (hn : B64 ≤ n) (hnm : n ≤ m) :
    Calls Try.prog 52 #[va, vb] w fun e w' => DivPost m n w e w' ∧ Below w.heap.size w w' := by
  have hc : 0 ≤ Pl.cmp m n := by have := @Pl.cmp_neg m n; omega
  go_enter Try.func52, Try.ntmps52
  go_wp2_with fail
  refine (both_ok ha hb (by omega) (by omega)).mono ?_
  rintro e w' ⟨⟨u, v, rfl, hp, hq⟩, rfl⟩
  obtain ⟨p, hP, cp, ea⟩ := id hp
  obtain ⟨q, hQ, cq, eb⟩ := id hq
  have lp := (Pl.canon_len_le (n := 64) B64_gt (num_dig hP) cp).2 (by rw [ea]; exact hm)
  have lq := Pl.canon_len B64_pos (num_dig hP) cq (show Pl.val B64 q ≤ Pl.val B64 p by rw [ea, eb]; exact hnm)
  have lq2 : ¬ q.length ≤ 1 := by
    intro h
    have := (Pl.canon_len_le (n := 1) B64_gt (num_dig hQ) cq).1 h
    rw [Nat.pow_one, eb] at this; omega
  have e0 : ((q.length : Int) == 0) = false := by rw [beq_eq_false_iff_ne]; omega
  have e1 : ((q.length : Int) == 1) = false := by rw [beq_eq_false_iff_ne]; omega
  obtain ⟨A, c1, rfl, hc1, hm1⟩ := sl_open hP
  obtain ⟨A', c2, rfl, hc2, hm2⟩ := sl_open hQ
  have Ea := hid ea
  have Eb := hid eb
  clear ea eb ha hb
  have dq := num_dig hQ
  have dp := num_dig hP
  go_wp2_with fail
  refine (cmp_calls (num_raw hp) (num_raw hq)).mono ?_
  rintro e w1 ⟨rfl, hst⟩
  have hB1 := hst.below
  have hsz := hid hst.size
  have hP1 := hst.rep _ hP
  have hQ1 := hst.rep _ hQ
  obtain ⟨b, o, rfl, _, hcell, hbd⟩ := num_at hQ1 (q.length - 1) (by omega)
  have i1 : IntKind.i64.wrap ((q.length : Int) - 1) = ((q.length - 1 : Nat) : Int) := by
    rw [show (q.length : Int) - 1 = ((q.length - 1 : Nat) : Int) by omega]; exact IntWalk.i64_in _ (by omega)
  clear hP hQ hp hq hst
  go_wp2_with fail
  refine (lz64_calls q[q.length - 1] hbd _).mono ?_
  rintro e w' ⟨rfl, rfl⟩
  obtain ⟨s, hs⟩ : ∃ s, s = 64 - Lib.bitLen q[q.length - 1] := ⟨_, rfl⟩
  rw [← hs]
  have hs63 : s ≤ 63 := by
    have h1 := cq.last (by omega)
    have h2 := bitLen_lt q[q.length - 1] (by unfold B64 at hbd; omega)
    rcases Nat.eq_zero_or_pos (Lib.bitLen q[q.length - 1]) with h0 | h0
    · rw [h0] at h2; omega
    · omega
  have htop := hid (top_lt (by omega) dq hs)
  have Hs := hid hs
  clear hs
  have hz1 : (0 : Int) ≤ (q.length : Int) := by omega
  have hz2 : (q.length : Int) ≤ (q.length : Int) + 1 := by omega
  go_upto_region 12 with (fail)
  go_cut [11, 12] (fun u v wc => Shifted w1 p.length q.length m n s u v wc)
  case first =>
    go_region_held3 (fun _ => True) (trivial)
      (first
      | (go_at_call_of 77 (Value.slice A p.length c1)
         refine (shift_calls hs63 (rep_drew _ hP1) (by omega)).mono ?_
         rintro e wa ⟨ua, rfl, ha1, ha2, ha3, ha4, ha5⟩)
      | (go_at_call_of 77 (Value.slice (some ⟨b, o, none⟩) q.length c2)
         refine (shift_calls hs63 ((Rep.num .u64 B64).sl.below (rep_drew _ hQ1) ha5) (by omega)).mono ?_
         rintro e wb ⟨ub, rfl, hb1, hb2, hb3, hb4, hb5⟩)
      | fail)
    go_wp2_with fail
    go_meet
    case rel =>
      have ha6 : Below w1.heap.size w1 wa := ⟨ha5.os, ha5.tape, ha5.output, ha5.size, ha5.block⟩
      have hsa := ha6.size
      refine ⟨w1.heap.size, wa.heap.size, ua, ub, rfl, rfl, ?_, Nat.le_refl _, hsa, ha1, ha2, by rw [ha3, Ea.out], ha4.below ha4.lt hb5, hb1, hb2, by rw [hb3, Eb.out], hb4, ?_⟩
      · have hx : w1.heap.size < wa.heap.size := ha4.lt
        omega
      · exact below_trans ha6 hb5
  case rest =>
    obtain ⟨gu, gv, us, vs, rfl, rfl, hne, hgu, hgv, hul, hud, hUv, hrowu, hvl, hvd, hVv, hrowv, hB2⟩ := hcut
    have hmk : ∀ W : World, (Instr.makeSlice 24 (.int .i64 ((p.length : Int) - (q.length : Int) + 1)) (.int .i64 ((p.length : Int) - (q.length : Int) + 1))).run Try.prog W = .ok (.slice (some ⟨W.heap.size, 0, none⟩) (p.length - q.length + 1) (p.length - q.length + 1)) (W.alloc (.cells (zerosOf (.int .u64 0) (p.length - q.length + 1)) 65)) := fun W => by
      have := run_make_u64 (p.length - q.length + 1) (by omega) W
      rwa [show ((p.length - q.length + 1 : Nat) : Int) = (p.length : Int) - (q.length : Int) + 1 by omega] at this
    go_wp2_with fail
    have hwcs : w1.heap.size ≤ wc.heap.size := hB2.size
    have hguc := hrowu.lt
    have hgvc := hrowv.lt
    obtain ⟨gq, hgq⟩ : ∃ gq, gq = wc.heap.size := ⟨_, rfl⟩
    rw [← hgq]
    have hq1 : gu ≠ gq := by omega
    have hq2 : gv ≠ gq := by omega
    have hq3 : w1.heap.size ≤ gq := by omega
    have hrowq := row_newAt wc 65 (zerosOf (.int .u64 0) (p.length - q.length + 1)) gq hgq
    rw [zerosOf_num] at hrowq
    have hwq := below_alloc hB2 (.cells (zerosOf (.int .u64 0) (p.length - q.length + 1)) 65)
    have hV2 := Pl.val_lt hvd
    have hVb : Pl.val B64 vs < B64 ^ q.length := by rw [hVv, ← Eb.out]; exact htop.out
    have hVz := Pl.val_take_drop B64 vs q.length (by omega)
    have hVd : Pl.val B64 (vs.drop q.length) = 0 := by
      rcases Nat.eq_zero_or_pos (Pl.val B64 (vs.drop q.length)) with h | h
      · exact h
      · have : B64 ^ q.length * 1 ≤ B64 ^ q.length * Pl.val B64 (vs.drop q.length) := Nat.mul_le_mul_left _ h
        omega
    have hVt : Pl.val B64 (vs.take q.length) = n * 2 ^ s := by rw [← hVv, hVz, hVd]; simp
    have hvt : (vs.take q.length).length = q.length := by rw [List.length_take]; omega
    have hfirst := Pl.long_first hUv (show m < B64 ^ p.length by rw [← Ea.out]; exact Pl.val_lt dp) (show B64 ^ (q.length - 1) ≤ n by rw [← Eb.out]; exact cq.ge (by omega)) (by omega) lq (Nat.two_pow_pos s) (by omega)
    have hVlt : n * 2 ^ s ≤ B64 ^ q.length := by rw [← hVv]; omega
    obtain ⟨vt, hvte⟩ : ∃ vt, vt = vs.take q.length := ⟨_, rfl⟩
    rw [← hvte] at hVt hvt
    have hvtd : Pl.Dig B64 vt := by rw [hvte]; exact hvd.take _
    have HVt := hid hVt
    have Hvt := hid hvt
    have Hvte := hid hvte
    have HVlt := hid hVlt
    have Hfirst := hid hfirst
    have HUv := hid hUv
    have Hul := hid hul
    have Hvl := hid hvl
    clear hVt hvt hvte hVlt hfirst hUv hul hvl hV2 hVb hVz hVd hVv hgq hmk
    go_loopw [15] (fun jv wr => ∃ k : Nat, ∃ us outs : List Nat, jv = .int .i64 ((k : Int) - 1) ∧ k ≤ p.length - q.length + 1 ∧ us.length = p.length + 1 ∧ Pl.Dig B64 us ∧ outs.length = p.length - q.length + 1 ∧ Pl.Dig B64 outs ∧ Row wr gu 65 (nums .u64 us) ∧ Row wr gq 65 (nums .u64 outs) ∧ Row wr gv 65 (nums .u64 vs)
      ∧ Hid (Pl.val B64 us + B64 ^ k * (Pl.val B64 (outs.drop k) * (n * 2 ^ s)) = m * 2 ^ s) ∧ Hid (Pl.val B64 (us.drop k) < n * 2 ^ s) ∧ Below w1.heap.size w1 wr) (fun jv _ => (intOf jv + 1).toNat)
    case atStart =>
      refine ⟨p.length - q.length + 1, us, List.replicate (p.length - q.length + 1) 0, by congr 1; omega, Nat.le_refl _, Hul.out, hud, by simp, Pl.Dig.replicate B64_pos _, hrowu.alloc _, hrowq, hrowv.alloc _, ?_, Hfirst, hwq⟩
      show _ = _
      rw [List.drop_of_length_le (by simp), HUv.out]
      simp [Pl.val]
    case round =>
      clear hrowu hrowq hrowv hwq Hfirst HUv Hul hud hB2 hwcs hguc hgvc us
      obtain ⟨k, us, outs, rfl, hk, hul, hud, hol, hod, hrowu, hrowq, hrowv, hinv, hlow, hB2⟩ := hrel
      obtain ⟨wo, rfl⟩ : ∃ wo : World, wo = wr := ⟨_, rfl⟩
      have Hul := hid hul
      have Hol := hid hol
      clear hul hol
      cases k with
      | succ j =>
        rw [show (((j + 1 : Nat) : Int) - 1) = (j : Int) by omega]
        have hj0 : (0 : Int) ≤ (j : Int) := by omega
        have hjq : (j : Int) + (q.length : Int) ≤ (p.length : Int) := by omega
        obtain ⟨pre, hpre⟩ : ∃ x, x = us.take j := ⟨_, rfl⟩
        obtain ⟨mid, hmid⟩ : ∃ x, x = (us.drop j).take (q.length + 1) := ⟨_, rfl⟩
        obtain ⟨post, hpost⟩ : ∃ x, x = us.drop (j + q.length + 1) := ⟨_, rfl⟩
        have husp : us = pre ++ mid ++ post := by
          rw [hpre, hmid, hpost, List.append_assoc, show j + q.length + 1 = j + (q.length + 1) from Nat.add_assoc _ _ _, ← List.drop_drop, List.take_append_drop, List.take_append_drop]
        have hprel : pre.length = j := by have := Hul.out; rw [hpre, List.length_take]; omega
        have hmidl : mid.length = q.length - 2 + 3 := by have := Hul.out; rw [hmid, List.length_take, List.length_drop]; omega
        obtain ⟨k1, k2, k3⟩ := Pl.long_pick (n := q.length) hud (show j < us.length by have := Hul.out; omega) HVlt.out hlow.out
        rw [← hmid] at k1 k2
        rw [← hpost] at k3
        have hmidd : Pl.Dig B64 mid := by rw [hmid]; exact (hud.drop _).take _
        have hpred : Pl.Dig B64 pre := by rw [hpre]; exact hud.take _
        have hpostd : Pl.Dig B64 post := by rw [hpost]; exact hud.drop _
        have hrowu' : Row wo gu 65 (nums .u64 (pre ++ mid ++ post)) := by rw [← husp]; exact hrowu
        have hvsp : vs = [] ++ vt ++ vs.drop q.length := by rw [Hvte.out, List.nil_append, List.take_append_drop]
        have hrowv' : Row wo gv 65 (nums .u64 ([] ++ vt ++ vs.drop q.length)) := by rw [← hvsp]; exact hrowv
        have hVs := Row.seg (S := fun b => b = gv) hrowv' rfl hvtd 0 q.length (q.length + 1) rfl Hvt.out.symm (by omega) (by omega) (by omega)
        have hQlt : Pl.val B64 mid / Pl.val B64 vt < B64 := by
          rw [HVt.out]; exact Nat.div_lt_of_lt_mul (by rw [Nat.mul_comm]; exact k1)
        have hinv' : Hid (Pl.val B64 (pre ++ mid ++ post) + B64 ^ (j + 1) * (Pl.val B64 (List.drop (j + 1) outs) * (n * 2 ^ s)) = m * 2 ^ s) := by rw [← husp]; exact hinv
        have hpl : pre.length + mid.length + post.length = p.length + 1 := by
          have := congrArg List.length husp
          rw [List.length_append, List.length_append, Hul.out] at this
          exact this.symm
        have hVpos : 0 < Pl.val B64 vt := by
          rw [HVt.out]; exact Nat.mul_pos (by omega) (Nat.two_pow_pos _)
        have Hmidl := hid hmidl
        have Hprel := hid hprel
        have K1 := hid k1
        have K3 := hid k3
        have Hpl := hid hpl
        have hjo : j < outs.length := by have := Hol.out; omega
        clear hinv hlow husp hprel hmidl k1 k2 k3 hpl hmid hpre hpost hvsp hrowu hrowv' Hul
        go_wp2_with fail
        rw [show j + q.length + 1 - j = q.length - 2 + 3 by omega]
        refine (digit_calls (n := q.length - 2) (S := fun b => b = gv) hrowu' Hprel.out.symm Hmidl.out (by rw [Hvt.out]; omega) (by omega) (by omega) (by omega) hmidd hVs (fun b hb => by rw [hb]; omega) (by rw [HVt.out]; exact K1.out)).mono ?_
        rintro e w4 ⟨us', hl', hd', hrow4, hg4, rfl, hv'⟩
        have hrowq4 := hrowq.grown hg4 (by simp; omega)
        have hrowv4 := hrowv.grown hg4 (by simp; omega)
        have hst := hrowq4.num (k := .u64) j hjo
        have hsf := hrowq4.frozen j
        obtain ⟨Q, hQ⟩ : ∃ Q, Q = Pl.val B64 mid / Pl.val B64 vt := ⟨_, rfl⟩
        rw [← hQ] at hQlt ⊢
        have hrowq5 := hrowq4.setNum (k := .u64) j Q
        have hrowu5 := hrow4.other (a := ⟨gq, j, none⟩) hq1 (.int .u64 (Q : Int))
        have hrowv5 := hrowv4.other (a := ⟨gq, j, none⟩) hq2 (.int .u64 (Q : Int))
        have hB5 := below_setCell (below_grown hB2 hg4 hgu) (p := ⟨gq, j, none⟩) hq3 (.int .u64 (Q : Int))
        have hinv5 : Hid (Pl.val B64 (pre ++ us' ++ post) + B64 ^ j * (Pl.val B64 ((outs.set j Q).drop j) * (n * 2 ^ s)) = m * 2 ^ s) := by
          refine Pl.long_step Hprel.out hjo K3.out ?_ hinv'.out
          rw [← HVt.out, hv', hQ, Nat.mul_comm]
          exact (Nat.div_add_mod _ _).symm
        have hlow5 : Hid (Pl.val B64 ((pre ++ us' ++ post).drop j) < n * 2 ^ s) := by
          show _ < _
          rw [Pl.long_rest Hprel.out K3.out, hv', ← HVt.out]
          exact Nat.mod_lt _ hVpos
        have hud5 : Pl.Dig B64 (pre ++ us' ++ post) := (hpred.append hd').append hpostd
        have hlen5 : (pre ++ us' ++ post).length = p.length + 1 := by
          rw [List.length_append, List.length_append, hl']; exact Hpl.out
        have Hlen5 := hid hlen5
        clear hl' hQ hv' hlen5 hinv'
        go_wp2_with fail
        go_roundw
        case rel => exact ⟨j, pre ++ us' ++ post, outs.set j Q, rfl, by omega, Hlen5.out, hud5, by rw [List.length_set]; exact Hol.out, hod.set j hQlt, hrowu5, hrowq5, hrowv5, hinv5, hlow5, hB5⟩
        case measure => simp [intOf]
      | zero =>
        obtain ⟨hqv, hrv⟩ := Pl.long_end (Nat.two_pow_pos s) (show 0 < n by omega) (by have := hlow.out; rwa [List.drop_zero] at this) hinv.out
        have hut : Pl.val B64 (us.take q.length) = m % n * 2 ^ s := by
          have h1 := Pl.val_drop_zero HVlt.out hlow.out
          rw [List.drop_zero] at h1
          rw [← hrv, Pl.val_take_drop B64 us q.length (by have := Hul.out; omega), h1]; simp
        have husp : us = [] ++ us.take q.length ++ us.drop q.length := by rw [List.nil_append, List.take_append_drop]
        have hrowu' : Row wo gu 65 (nums .u64 ([] ++ us.take q.length ++ us.drop q.length)) := by rw [← husp]; exact hrowu
        have hUs := Row.seg (S := fun b => b = gu) hrowu' rfl (hud.take q.length) 0 q.length (p.length + 1) rfl (by have := Hul.out; rw [List.length_take]; omega) (by omega) (by omega) (by omega)
        have Hqv := hid hqv
        clear hinv hlow hqv hrv husp hrowu' hrowu hrowv
        go_wp2_with fail
        refine (trim_calls hUs).mono ?_
        rintro e w' ⟨⟨u, rfl, hu⟩, rfl⟩
        have hrc := Pl.trim_canon (us.take q.length)
        have hrd := Pl.trim_dig (hud.take q.length)
        have hrv := Pl.trim_val B64 (us.take q.length)
        have hrl : (Pl.trim (us.take q.length)).length ≤ q.length := by
          rw [Pl.trim_length]
          exact Nat.le_trans (Pl.trimN_le _ _) (by rw [List.length_take]; omega)
        rw [hut] at hrv
        obtain ⟨r, hr⟩ : ∃ r, r = Pl.trim (us.take q.length) := ⟨_, rfl⟩
        rw [← hr] at hu hrc hrd hrv hrl
        obtain ⟨A3, c3, rfl, hc3, hm3⟩ := sl_open hu
        have Hrv := hid hrv
        have hmk : ∀ W : World, (Instr.makeSlice 24 (.int .i64 (r.length : Int)) (.int .i64 (r.length : Int))).run Try.prog W = .ok (.slice (some ⟨W.heap.size, 0, none⟩) r.length r.length) (W.alloc (.cells (zerosOf (.int .u64 0) r.length) 65)) := fun W => run_make_u64 r.length (by omega) W
        have hwos : w1.heap.size ≤ wo.heap.size := hB2.size
        have hgqo := hrowq.lt
        clear hrv hr hut hud hUs Hul us
        go_wp2_with fail
        have hrow0 := Row.new wo 65 (zerosOf (.int .u64 0) r.length)
        rw [zerosOf_num] at hrow0
        go_loopw [109] (fun iv wr => ∃ k : Nat, ∃ ys : List Nat, iv = .int .i64 (k : Int) ∧ k ≤ r.length ∧ ys.length = r.length ∧ Pl.Dig B64 ys ∧ Row wr wo.heap.size 65 (nums .u64 ys)
          ∧ Hid (Pl.val B64 (ys.take k) + B64 ^ k * (Pl.val B64 (r.drop k) / 2 ^ s) = m % n) ∧ Below wo.heap.size wo wr) (fun iv _ => r.length - (intOf iv).toNat)
        case atStart =>
          refine ⟨0, List.replicate r.length 0, rfl, by omega, by simp, Pl.Dig.replicate B64_pos _, hrow0, ?_, below_alloc (Below.refl _ _) _⟩
          show _ = _
          rw [List.drop_zero, Hrv.out, Nat.mul_div_cancel _ (Nat.two_pow_pos s)]; simp [Pl.val]
        case round =>
          clear hrow0 hmk Hrv
          obtain ⟨k, ys, rfl, hk, hyl, hyd, hrow, hinv, hB3⟩ := hrel
          by_cases hlt : k < r.length
          · obtain ⟨b', o', rfl, hS', hcell', hbd'⟩ := num_at ((Rep.num .u64 B64).sl.below hu hB3) k hlt
            clear hS'
            have hst := hrow.num (k := .u64) k (by omega)
            have hsf := hrow.frozen k
            have hDE : B64 = 2 ^ s * 2 ^ (64 - s) := by rw [← Nat.pow_add, show s + (64 - s) = 64 by omega]; rfl
            have hlt9 := Pl.down_lt (X := Pl.val B64 (r.drop (k + 1))) hDE (Nat.two_pow_pos s) hbd'
            obtain ⟨H, hH⟩ : ∃ H, H = r[k] / 2 ^ s := ⟨_, rfl⟩
            have q3 : (r[k] : Int) / 2 ^ s = (H : Int) := by rw [hH]; push_cast; rfl
            obtain ⟨C, hC⟩ : ∃ C, C = r[k] / 2 ^ s + 2 ^ (64 - s) * (Pl.val B64 (r.drop (k + 1)) % 2 ^ s) := ⟨_, rfl⟩
            rw [← hC] at hlt9
            have hinv9 := hid (Pl.down_inv hDE (Nat.two_pow_pos s) hlt (by omega) hC hinv.out)
            have hrow9 := hrow.setNum (k := .u64) k C
            have hB9 := below_setCell hB3 (p := ⟨wo.heap.size, k, none⟩) (Nat.le_refl _) (.int .u64 (C : Int))
            have hyd9 := hyd.set k hlt9
            have hk9 : (k : Int) < (r.length : Int) := by omega
            have hk8 : (0 : Int) ≤ (k : Int) := by omega
            by_cases hplain : s = 0 ∨ r.length ≤ k + 1
            · have hCH : C = H := by
                rw [hC, hH]
                rcases hplain with h | h
                · rw [h]; simp [Nat.mod_one]
                · rw [Pl.down_mod_end h]; simp
              rw [hCH] at hinv9 hrow9 hB9 hyd9
              clear hinv hC hH hDE hlt9 hCH
              by_cases hs0 : s = 0
              · have hs1 : ¬ (0 : Int) < (s : Int) := by omega
                have Hs0 := hid hs0
                clear hs0 hplain
                go_wp2_with fail
                go_roundw
                case rel => exact ⟨k + 1, _, by go_num, by omega, by simpa using hyl, hyd9, hrow9, hinv9, hB9⟩
                case measure => simp [intOf]; omega
              · have hs1 : (0 : Int) < (s : Int) := by omega
                have hk7 : ¬ (k : Int) + 1 < (r.length : Int) := by omega
                clear hplain
                go_wp2_with fail
                go_roundw
                case rel => exact ⟨k + 1, _, by go_num, by omega, by simpa using hyl, hyd9, hrow9, hinv9, hB9⟩
                case measure => simp [intOf]; omega
            · have hk1 : k + 1 < r.length := by omega
              obtain ⟨_, _, hx, hS2, hcell2, hbd2⟩ := num_at ((Rep.num .u64 B64).sl.below hu hB3) (k + 1) hk1
              clear hS2
              injection hx with hx
              injection hx with hx1 hx2
              subst hx1 hx2
              obtain ⟨X, hX⟩ : ∃ X, X = r[k + 1] * 2 ^ (64 - s) % 18446744073709551616 := ⟨_, rfl⟩
              have hXe : X = 2 ^ (64 - s) * (Pl.val B64 (r.drop (k + 1)) % 2 ^ s) := by
                rw [hX, Pl.down_mod hDE (by omega), show 18446744073709551616 = 2 ^ s * 2 ^ (64 - s) from hDE, Nat.mul_mod_mul_right, Nat.mul_comm]
              have hHlt : H < 2 ^ (64 - s) := by
                rw [hH, Nat.div_lt_iff_lt_mul (Nat.two_pow_pos s), Nat.mul_comm, ← hDE]; exact hbd'
              have q1 : IntKind.u64.wrap ((r[k + 1] : Int) * 2 ^ (64 - s)) = (X : Int) := by rw [hX]; exact u64_mod (by push_cast; rfl)
              have q2 : bits .or .u64 (H : Int) (X : Int) = (C : Int) := by
                rw [hX, or_low (by omega) hHlt, hC, ← hH, ← hXe, hX]
              have hrow8 := hrow.setNum (k := .u64) k H
              have hB8 := below_setCell hB3 (p := ⟨wo.heap.size, k, none⟩) (Nat.le_refl _) (.int .u64 (H : Int))
              have hrow7 := hrow8.setNum (k := .u64) k C
              have hB7 := below_setCell hB8 (p := ⟨wo.heap.size, k, none⟩) (Nat.le_refl _) (.int .u64 (C : Int))
              rw [List.set_set] at hrow7
              have hs1 : (0 : Int) < (s : Int) := by omega
              have hk7 : (k : Int) + 1 < (r.length : Int) := by omega
              clear hinv hC hH hDE hlt9 hXe hX hplain hrow9 hB9
              go_wp2_with fail
              go_region
              go_wp2_with fail
              go_roundw
              case rel => exact ⟨k + 1, _, by go_num, by omega, by simpa using hyl, hyd9, hrow7, hinv9, hB7.drew⟩
              case measure => simp [intOf]; omega
          · obtain rfl : k = r.length := by omega
            have hv := hinv.out
            rw [List.drop_of_length_le (Nat.le_refl _), List.take_of_length_le (by omega)] at hv
            have hv1 : Pl.val B64 ys = m % n := by rw [← hv]; simp [Pl.val]
            have Hv1 := hid hv1
            have hyb := hyl
            have hwr := hB3.size
            have hrq := hrowq.below hgqo hB3
            have hQs := hrq.slNum (S := Fresh w wr) ⟨by have := hsz.out; omega, hrq.lt⟩ hod (p.length - q.length + 1) (by have := Hol.out; omega) (by omega) (by have := Hol.out; omega)
            have hYs := hrow.slNum (S := Fresh w wr) ⟨by have := hsz.out; omega, hrow.lt⟩ hyd r.length (by omega) (by omega) (by omega)
            rw [Hol.out] at hQs
            rw [hyl] at hYs
            have hBf : Below w.heap.size w wr := below_trans hB1 (below_trans hB2 hB3)
            clear hv hv1 hinv hyl hyb hrow hB3 hrq
            go_wp2_with fail
            refine (trim_calls hQs).mono ?_
            rintro e w' ⟨⟨uq, rfl, huq⟩, rfl⟩
            go_wp2_with fail
            refine (trim_calls hYs).mono ?_
            rintro e w' ⟨⟨ur, rfl, hur⟩, rfl⟩
            go_wp2_with fail
            go_ret3
            refine ⟨?_, hBf⟩
            unfold DivPost
            rw [if_neg (by omega), if_neg (by omega)]
            exact ⟨_, _, rfl, ⟨_, huq, Pl.trim_canon _, by rw [Pl.trim_val]; exact Hqv.out⟩, ⟨_, hur, Pl.trim_canon _, by rw [Pl.trim_val]; exact Hv1.out⟩⟩

set_option maxHeartbeats 1000000 in
theorem div_calls {w : World} {S : Nat → Prop} {m n : Nat} {va vb : Value} (ha : RawN.rep S w m [va]) (hb : RawN.rep S w n [vb]) :
    Calls Try.prog 52 #[va, vb] w fun e w' => DivPost m n w e w' ∧ Below w.heap.size w w' := by
  by_cases hl : B64 ^ 64 ≤ m ∨ B64 ^ 64 ≤ n
  · go_enter Try.func52, Try.ntmps52
    go_wp2_with fail
    refine (both_long ha hb hl).mono ?_
    rintro e w' ⟨rfl, rfl⟩
    go_wp2
    go_ret3
    exact ⟨by unfold DivPost; rw [if_pos hl]; rfl, Below.refl _ _⟩
  by_cases hn0 : n = 0
  · go_enter Try.func52, Try.ntmps52
    go_wp2_with fail
    refine (both_ok ha hb (by omega) (by omega)).mono ?_
    rintro e w' ⟨⟨u, v, rfl, hp, ⟨q, hQ, cq, eb⟩⟩, rfl⟩
    have hq0 := canon_zero cq (by rw [eb]; exact hn0)
    obtain ⟨A', c2, rfl, hc2, hm2⟩ := sl_open hQ
    rw [hq0]
    have Hn0 := hid hn0
    have Hq0 := hid hq0
    have Eb := hid eb
    clear hn0 hq0 eb
    go_wp2
    go_ret3
    exact ⟨by unfold DivPost; rw [if_neg hl, if_pos Hn0.out]; rfl, Below.refl _ _⟩
  by_cases hless : m < n
  · go_enter Try.func52, Try.ntmps52
    go_wp2_with fail
    refine (both_ok ha hb (by omega) (by omega)).mono ?_
    rintro e w' ⟨⟨u, v, rfl, hp, hq⟩, rfl⟩
    obtain ⟨p, hP, cp, ea⟩ := id hp
    obtain ⟨q, hQ, cq, eb⟩ := id hq
    have hql : 0 < q.length := by
      rcases Nat.eq_zero_or_pos q.length with h | h
      · obtain rfl := List.eq_nil_of_length_eq_zero h
        exact absurd eb.symm hn0
      · exact h
    obtain ⟨A', c2, rfl, hc2, hm2⟩ := sl_open hQ
    have e0 : ((q.length : Int) == 0) = false := by rw [beq_eq_false_iff_ne]; omega
    have Ea := hid ea
    have Eb := hid eb
    clear ea eb
    go_wp2_with fail
    refine (cmp_calls (num_raw hp) (num_raw hq)).mono ?_
    rintro e w1 ⟨rfl, hst⟩
    have hP1 := hst.rep _ hP
    have hB1 := hst.below
    rw [Pl.cmp_lt hless]
    have Hless := hid hless
    clear hst hP hp hq hless
    go_wp2_with fail
    refine (clone_calls hP1).mono ?_
    rintro e w2 ⟨⟨u', rfl, hu'⟩, hB2⟩
    go_wp2
    go_ret3
    refine ⟨?_, below_trans hB1 hB2⟩
    unfold DivPost
    rw [if_neg hl, if_neg hn0]
    refine ⟨_, _, rfl, ?_, ⟨p, NatS.mono hu' (Fresh.mono hB1.size (Nat.le_refl _)) (Same.refl _ _), cp, ?_⟩⟩
    · rw [Nat.div_eq_of_lt Hless.out]; exact NumN.zero _ _
    · rw [Ea.out, Nat.mod_eq_of_lt Hless.out]
  by_cases hbig : B64 ≤ n
  · exact div_main ha hb (by omega) hbig (by omega)
  · have hc : 0 ≤ Pl.cmp m n := by have := @Pl.cmp_neg m n; omega
    go_enter Try.func52, Try.ntmps52
    go_wp2_with fail
    refine (both_ok ha hb (by omega) (by omega)).mono ?_
    rintro e w' ⟨⟨u, v, rfl, hp, hq⟩, rfl⟩
    obtain ⟨q, hQ, cq, eb⟩ := id hq
    have hql : q.length = 1 := by
      have h1 := (Pl.canon_len_le (n := 1) B64_gt (num_dig hQ) cq).2 (by rw [eb, Nat.pow_one]; omega)
      rcases Nat.eq_zero_or_pos q.length with h | h
      · obtain rfl := List.eq_nil_of_length_eq_zero h
        exact absurd eb.symm hn0
      · omega
    obtain ⟨d, rfl⟩ : ∃ d, q = [d] := List.length_eq_one_iff.1 hql
    obtain rfl : d = n := by rw [← eb, Pl.val_one]
    clear eb hql
    obtain ⟨A', c2, rfl, hc2, hm2⟩ := sl_open hQ
    simp only [List.length_singleton] at hQ hq hc2 ⊢
    go_wp2_with fail
    refine (cmp_calls (num_raw hp) (num_raw hq)).mono ?_
    rintro e w1 ⟨rfl, hst⟩
    have hp1 := hst.rep _ hp
    have hQ1 := hst.rep _ hQ
    have hB1 := hst.below
    obtain ⟨b, o, rfl, _, hcell, hbd⟩ := num_at hQ1 0 (by simp)
    have hcell' : w1.cell? ⟨b, o, none⟩ = some (.int .u64 (d : Int)) := by simpa using hcell
    clear hst hp hq hQ hcell
    go_wp2_with fail
    refine (short_calls (by omega) (by omega) hp1 (by omega)).mono ?_
    rintro e w2 ⟨⟨q', r', rfl, hq', hr'⟩, hB2⟩
    go_wp2
    go_ret3
    refine ⟨?_, below_trans hB1 hB2⟩
    unfold DivPost
    rw [if_neg hl, if_neg hn0]
    exact ⟨_, _, rfl, NumN.mono hq' (Fresh.mono hB1.size (Nat.le_refl _)) (Same.refl _ _), NumN.mono hr' (Fresh.mono hB1.size (Nat.le_refl _)) (Same.refl _ _)⟩

theorem div_ok {w : World} {S : Nat → Prop} {m n : Nat} {va vb : Value} (ha : RawN.rep S w m [va]) (hb : RawN.rep S w n [vb]) (hm : m < B64 ^ 64) (hn : n < B64 ^ 64) (h0 : 0 < n) :
    Calls Try.prog 52 #[va, vb] w fun e w' => (∃ q r, e = .returned (.tuple #[q, r, .nilIface]) ∧ NumN.rep (Fresh w w') w' (m / n) [q] ∧ NumN.rep (Fresh w w') w' (m % n) [r]) ∧ Below w.heap.size w w' := by
  refine (div_calls ha hb).mono fun e w' ⟨h, hw⟩ => ⟨?_, hw⟩
  unfold DivPost at h
  rwa [if_neg (by omega), if_neg (by omega)] at h

end Go.Proofs.Ytphbacggmhjmgaa
