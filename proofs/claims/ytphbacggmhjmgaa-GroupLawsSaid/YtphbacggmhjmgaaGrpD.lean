/- The layer group, fourth part: a group is made. -/
import Derived.Test.YtphbacggmhjmgaaGrpC
import Derived.Test.YtphbacggmhjmgaaPrC
import Derived.Test.YtphbacggmhjmgaaLaw
namespace Go.Proofs.Ytphbacggmhjmgaa
open Go.RowKit

/-- how many bytes an element holds -/
def gsize (q : Nat) : Nat := (bitLen q - 1) / 8
/-- what is amiss with a group's numbers first (a code, and its place in the chain, if it has one), or the group -/
def gnewE (gn : Nat) (l : List Step3) : Except (Nat × Option Nat) G4 :=
  if l.length = 0 ∨ 64 < l.length then .error (1, none)
  else if (Num.chainE (B64 ^ 32) (B64 ^ 64) l 0).1 ≠ 0 then .error ((Num.chainE (B64 ^ 32) (B64 ^ 64) l 0).1, some (Num.chainE (B64 ^ 32) (B64 ^ 64) l 0).2)
  else if (l.headD (0, 0, 0)).1 / 2 ≠ (l.headD (0, 0, 0)).2.1 ∨ (l.headD (0, 0, 0)).1 / 2 ≤ 2 then .error (14, none)
  else if elB (l.headD (0, 0, 0)).1 ((l.headD (0, 0, 0)).1 / 2) gn = false ∨ gn = 1 then .error (8, none)
  else if gsize ((l.headD (0, 0, 0)).1 / 2) = 0 then .error (14, none)
  else .ok ((l.headD (0, 0, 0)).1, (l.headD (0, 0, 0)).1 / 2, gn, gsize ((l.headD (0, 0, 0)).1 / 2))
/-- an error's value -/
def ErrAt (w w' : World) : Nat × Option Nat → Value → Prop
  | (c, none), v => v = errV c
  | (c, some i), v => SpotIs w w' i c v
def GNewPost (w : World) (e : Ending) (w' : World) : Except (Nat × Option Nat) G4 → Prop
  | .error x => ∃ v, e = .returned (.tuple #[.pointer none, v]) ∧ ErrAt w w' x v
  | .ok x => ∃ v, e = .returned (.tuple #[v, .nilIface]) ∧ GrpP.rep (Fresh w w') w' x [v]

theorem chain_head {b32 b64 : Nat} {l : List Step3} (h0 : 0 < l.length) (h : (Num.chainE b32 b64 l 0).1 = 0) : Num.Pr (l.headD (0, 0, 0)).1 ∧ Num.Pr (l.headD (0, 0, 0)).2.1 ∧ Num.stepE b32 b64 (l.headD (0, 0, 0)).1 (l.headD (0, 0, 0)).2.1 (l.headD (0, 0, 0)).2.2 = 0 := by
  obtain _ | ⟨⟨p, q, a⟩, l⟩ := l
  · simp at h0
  obtain ⟨h1, h2⟩ := Num.chain_pr l 0 p q a h
  refine ⟨h1, h2, ?_⟩
  simp only [List.headD_cons]
  cases l with
  | nil =>
    unfold Num.chainE at h
    split at h
    · rename_i hh; exact absurd h hh
    · rename_i hh; simpa using hh
  | cons y l =>
    obtain ⟨p', q', a'⟩ := y
    unfold Num.chainE at h
    split at h
    · rename_i hh; exact absurd h hh
    · rename_i hh; simpa using hh
theorem step_bounds {b32 b64 p q a : Nat} (h : Num.stepE b32 b64 p q a = 0) : p < b32 ∧ p % 2 = 1 ∧ 3 ≤ p := by
  unfold Num.stepE at h
  split at h
  · omega
  split at h
  · omega
  · omega
theorem spot_up {a b c : World} {i k : Nat} {v : Value} (h : SpotIs b c i k v) (hb : a.heap.size ≤ b.heap.size) : SpotIs a c i k v := by
  obtain ⟨g, h1, h2, h3⟩ := h
  exact ⟨g, h1, Fresh.mono hb (Nat.le_refl _) g h2, h3⟩

set_option maxHeartbeats 8000000 in
set_option maxRecDepth 100000 in
theorem gnew_calls {S T : Nat → Prop} {w : World} {gn : Nat} {l : List Step3} {vg vc : Value} (hg : RawN.rep T w gn [vg]) (h : StepS.sl.rep S w l [vc]) (lg : bitLen gn ≤ 1000000) :
    Calls Try.prog 19 #[.agg #[vg, vc]] w fun e w' => GNewPost w e w' (gnewE gn l) ∧ Below w.heap.size w w' := by
  obtain ⟨A, cap, rfl, hcap, hcm⟩ := sl_open h
  obtain ⟨Ag, lgn, cg, eg⟩ := raw_val hg
  simp only [List.cons.injEq, and_true] at eg
  subst eg
  have hb0 := below_alloc (Below.refl w.heap.size w) (.cells #[.slice Ag lgn cg, .slice A l.length cap] 55)
  have hr0 := Row.new w 55 #[.slice Ag lgn cg, .slice A l.length cap]
  have h0 := StepS.sl.below h hb0
  have hg0 := RawN.below hg hb0
  have hwl := hr0.lt
  by_cases hl0 : l.length = 0 ∨ 64 < l.length
  · have hr : ∀ e w', e = .returned (.tuple #[.pointer none, .iface 38 (.int .i64 1)]) → GNewPost w e w' (gnewE gn l) := fun e w' he => by unfold gnewE; rw [if_pos hl0]; exact ⟨_, he, rfl⟩
    have Hr := hid hr
    have Hl := hid hl0
    clear hr hl0
    go_enter Try.func19, Try.ntmps19
    go_wp2_with fail
    refine (check_calls h0).mono ?_
    rintro e w1 ⟨he, hb1⟩
    unfold CheckPost at he
    rw [if_pos Hl.out] at he
    subst he
    go_wp2_with fail
    go_ret2
    exact ⟨Hr.out _ _ rfl, below_trans hb0 hb1⟩
  have hlp : 0 < l.length := by omega
  have Hl0 := hid hl0
  clear hl0
  by_cases hc0 : (Num.chainE (B64 ^ 32) (B64 ^ 64) l 0).1 = 0
  rotate_left
  · have hr : ∀ v w', SpotIs w w' (Num.chainE (B64 ^ 32) (B64 ^ 64) l 0).2 (Num.chainE (B64 ^ 32) (B64 ^ 64) l 0).1 v → GNewPost w (.returned (.tuple #[.pointer none, v])) w' (gnewE gn l) := fun v w' hv => by
      unfold gnewE; rw [if_neg Hl0.out, if_pos hc0]; exact ⟨v, rfl, hv⟩
    have Hr := hid hr
    have Hc := hid hc0
    clear hr hc0
    go_enter Try.func19, Try.ntmps19
    go_wp2_with fail
    refine (check_calls h0).mono ?_
    rintro e w1 ⟨he, hb1⟩
    unfold CheckPost at he
    rw [if_neg Hl0.out, if_neg Hc.out] at he
    obtain ⟨v, rfl, hv⟩ := he
    have hv2 := spot_up hv hb0.size
    obtain ⟨g, rfl, hv⟩ := hv
    clear hv
    go_wp2_with fail
    go_ret2
    exact ⟨Hr.out _ _ hv2, below_trans hb0 hb1⟩
  obtain ⟨hpp, hpq, hst⟩ := chain_head hlp hc0
  obtain ⟨hp32, hodd, hp3⟩ := step_bounds hst
  obtain ⟨P, hP⟩ : ∃ P, P = (l.headD (0, 0, 0)).1 := ⟨_, rfl⟩
  obtain ⟨q0, hq0⟩ : ∃ q0, q0 = (l.headD (0, 0, 0)).2.1 := ⟨_, rfl⟩
  have hl0P : l[0].1 = P := by rw [hP]; cases l with | nil => simp at hlp | cons x l => rfl
  have hl0q : l[0].2.1 = q0 := by rw [hq0]; cases l with | nil => simp at hlp | cons x l => rfl
  rw [← hP] at hpp hst hp32 hodd hp3
  rw [← hq0] at hpq hst
  obtain ⟨H, hH⟩ : ∃ H, H = P / 2 := ⟨_, rfl⟩
  have hEq : gnewE gn l = if H ≠ q0 ∨ H ≤ 2 then .error (14, none) else if elB P H gn = false ∨ gn = 1 then .error (8, none) else if gsize H = 0 then .error (14, none) else .ok (P, H, gn, gsize H) := by
    unfold gnewE
    rw [if_neg Hl0.out, if_neg (by simpa using hc0), ← hP, ← hq0, ← hH]
  obtain ⟨E, hEE⟩ : ∃ E, E = gnewE gn l := ⟨_, rfl⟩
  rw [← hEE] at hEq ⊢
  replace hEq := hid hEq
  have hP2 := hid hP
  have Hc := hid hc0
  have HH := hid hH
  have hHl : H < B64 ^ 32 := by omega
  have hHle : 2 * H + 1 = P := by omega
  replace hpq := hid hpq
  replace hl0q := hid hl0q
  clear hEE hc0 hP hq0 hH hst hpp hl0P
  obtain ⟨b, o, A1, l1, c1, A2, l2, c2, A3, l3, c3, rfl, hSb, hbl, _, r2, _, _, k2, _⟩ := chain_at h0 0 hlp
  rw [Nat.zero_mul, Nat.add_zero] at k2
  rw [hl0q.out] at r2
  go_enter Try.func19, Try.ntmps19
  go_wp2_with fail
  refine (check_calls h0).mono ?_
  rintro e w1 ⟨he, hb1⟩
  unfold CheckPost at he
  rw [if_neg Hl0.out, if_pos Hc.out, ← hP2.out] at he
  obtain ⟨pv, rfl, hp1⟩ := he
  have hB1 := below_trans hb0 hb1
  have hr1 := hr0.below hwl hb1
  have d0 := hr1.cell 0 (by simp)
  have d1 := hr1.cell 1 (by simp)
  simp only [List.getElem_cons_zero, List.getElem_cons_succ] at d0 d1
  have k21 := (hb1.cell (p := ⟨b, o + 1, none⟩) hbl).trans k2
  have r21 := raw_all (RawN.below r2 hb1)
  have hg1 := raw_all (RawN.below hg0 hb1)
  replace hp1 := num_all_ hp1
  have hw1 : w.heap.size < w1.heap.size := hr1.lt
  have hb1l : b < w1.heap.size := Nat.lt_of_lt_of_le hbl hb1.size
  clear hr0 h0 hg0 k2 r2 hb1 hb0 hwl hbl
  have hb2 := below_alloc (Below.refl w1.heap.size w1) (.cells #[.int .u64 2] 65)
  have h2 := raw_all (num_raw (lit_num w1 2 (by omega) (by decide) _ rfl))
  have two_lim : 2 < B64 ^ 64 := lim_up (show 2 < B64 ^ 1 by decide) (show 1 ≤ 64 by omega)
  have P_lim : P < B64 ^ 64 := lim_up hp32 (show 32 ≤ 64 by omega)
  go_wp2_with fail
  refine (div_ok (raw_all (num_raw (NumN.below hp1 hb2))) h2 P_lim two_lim (by omega)).mono ?_
  rintro e w2 ⟨⟨qv, rv, rfl, hqv, _⟩, hb3⟩
  rw [← HH.out] at hqv
  have hB12 := below_trans hb2 hb3
  have hB2 := below_trans hB1 hB12
  replace hqv := NumN.mono hqv (S' := Fresh w w2) (Fresh.mono (Nat.le_trans hB1.size hb2.size) (Nat.le_refl _)) (Same.refl _ _)
  replace hp1 := NumN.below hp1 hB12
  replace d0 := (hB12.cell (p := ⟨w.heap.size, 0, none⟩) hw1).trans d0
  replace d1 := (hB12.cell (p := ⟨w.heap.size, 1, none⟩) hw1).trans d1
  replace k21 := (hB12.cell (p := ⟨b, o + 1, none⟩) hb1l).trans k21
  replace r21 := RawN.below r21 hB12
  replace hg1 := RawN.below hg1 hB12
  have hw2 : w.heap.size < w2.heap.size := Nat.lt_of_lt_of_le hw1 hB12.size
  clear h2 two_lim hb2 hb3 hB1 hw1 hr1 hB12 hb1l
  go_wp2_with fail
  refine (cmp_calls (raw_all (num_raw hqv)) r21).mono ?_
  rintro e w3 ⟨rfl, hst⟩
  have hB23 := hst.below
  have hB3 := below_trans hB2 hB23
  replace hqv := NumN.below hqv hB23
  replace hp1 := NumN.below hp1 hB23
  replace hg1 := RawN.below hg1 hB23
  replace d0 := (hB23.cell (p := ⟨w.heap.size, 0, none⟩) hw2).trans d0
  clear d1 k21 r21 hst hB2
  by_cases hHq : H = q0
  rotate_left
  · have hc : (Pl.cmp H q0 == 0) = false := by rw [beq_eq_false_iff_ne, ne_eq, Pl.cmp_zero]; exact hHq
    have hc2 : (Pl.cmp H q0 != 0) = true := by rw [bne, hc]; rfl
    have hr : ∀ e w', e = .returned (.tuple #[.pointer none, .iface 38 (.int .i64 14)]) → GNewPost w e w' E := fun e w' he => by rw [hEq.out, if_pos (.inl hHq)]; exact ⟨_, he, rfl⟩
    have Hr := hid hr
    clear hr hHq
    go_wp2_with fail
    go_ret2
    exact ⟨Hr.out _ _ rfl, hB3⟩
  subst hHq
  rw [cmp_eq rfl]
  have hb2 := below_alloc (Below.refl w3.heap.size w3) (.cells #[.int .u64 2] 65)
  have h2 := raw_all (num_raw (lit_num w3 2 (by omega) (by decide) _ rfl))
  go_wp2_with fail
  refine (cmp_calls (raw_all (num_raw (NumN.below hqv hb2))) h2).mono ?_
  rintro e w4 ⟨rfl, hst⟩
  have hB34 := below_trans hb2 hst.below
  have hB4 := below_trans hB3 hB34
  by_cases h2H : H ≤ 2
  · have hc := cmp_le h2H
    have hr : ∀ e w', e = .returned (.tuple #[.pointer none, .iface 38 (.int .i64 14)]) → GNewPost w e w' E := fun e w' he => by rw [hEq.out, if_pos (.inr h2H)]; exact ⟨_, he, rfl⟩
    have Hr := hid hr
    clear hr h2H
    go_wp2_with fail
    go_ret2
    exact ⟨Hr.out _ _ rfl, hB4⟩
  have hc := cmp_not_le h2H
  replace hEq := hid (hEq.out.trans (if_neg (show ¬ (H ≠ H ∨ H ≤ 2) by omega)))
  replace hqv := NumN.below hqv hB34
  replace hp1 := NumN.below hp1 hB34
  replace hg1 := RawN.below hg1 hB34
  have hw3 : w.heap.size < w3.heap.size := Nat.lt_of_lt_of_le hw2 hB23.size
  replace d0 := (hB34.cell (p := ⟨w.heap.size, 0, none⟩) hw3).trans d0
  clear hB34 h2 hB3 hw2
  go_wp2_with fail
  refine (norm_calls hg1).mono ?_
  rintro e w5 ⟨⟨gv, rfl, hgv⟩, hb5⟩
  obtain ⟨A4, l4, c4, rfl⟩ := num_open hgv
  obtain ⟨A5, l5, c5, rfl⟩ := num_open hqv
  replace hqv := NumN.below hqv hb5
  replace hp1 := NumN.below hp1 hb5
  have hB5 := below_trans hB4 hb5
  have hbl : bitLen H ≤ 2048 := by
    rw [bitLen_le_iff]
    exact two_pow 64 B64 (by decide) H 32 2048 (by omega) hHl
  have hbl1 : 1 ≤ bitLen H := by
    rcases Nat.eq_zero_or_pos (bitLen H) with h | h
    · have := bl_zero.1 h; omega
    · exact h
  obtain ⟨gs, hgs⟩ : ∃ gs, gs = gsize H := ⟨_, rfl⟩
  have hgsd : ((bitLen H : Int) - 1) / 8 = (gs : Int) := by rw [hgs]; unfold gsize; omega
  have hgsb : gs < 1000000 := by rw [hgs]; unfold gsize; omega
  have Hgs := hid hgs
  clear hgs
  go_wp2_with fail
  refine (nbits_calls (num_raw hqv) (by omega)).mono ?_
  rintro e w6 ⟨rfl, rfl⟩
  obtain ⟨L, hL⟩ : ∃ L, L = bitLen H := ⟨_, rfl⟩
  rw [← hL] at hbl hbl1 hgsd ⊢
  clear hL
  have hb6 := below_alloc (Below.refl w5.heap.size w5) (.cells #[.pointer none, .slice A5 l5 c5, .slice A4 l4 c4, .pointer none, .int .i64 (gs : Int)] 72)
  have hrw := Row.new w5 72 #[.pointer none, .slice A5 l5 c5, .slice A4 l4 c4, .pointer none, .int .i64 (gs : Int)]
  obtain ⟨w6, hw6⟩ : ∃ w6, w6 = w5.alloc (.cells #[.pointer none, .slice A5 l5 c5, .slice A4 l4 c4, .pointer none, .int .i64 (gs : Int)] 72) := ⟨_, rfl⟩
  rw [← hw6] at hb6 hrw
  have hB6 := below_trans hB5 hb6
  replace hqv := NumN.below hqv hb6
  replace hgv := NumN.below hgv hb6
  replace hp1 := NumN.below hp1 hb6
  have hz5 : w.heap.size ≤ w5.heap.size := hB5.size
  have hz2 : w2.heap.size ≤ w5.heap.size := Nat.le_trans (Nat.le_trans (Nat.le_trans hB23.size hb2.size) hst.below.size) hb5.size
  have hz6 : w5.heap.size < w6.heap.size := hrw.lt
  clear d0 hb6 hg1 hB5 hb5 hB4
  go_wp2_with fail
  rw [← hw6]
  refine (mnew_calls (num_raw hp1)).mono ?_
  rintro e w7 ⟨he, hb7⟩
  unfold NewPost at he
  rw [if_neg (by omega), if_neg (by omega)] at he
  obtain ⟨mv, rfl, hM⟩ := he
  obtain ⟨mg, rfl⟩ := mod_ptr hM
  have hB7 := below_trans hB6 hb7
  have hr7 := hrw.below hz6 hb7
  have m0 := hr7.cell 0 (by simp)
  have f0 := hr7.frozen 0
  simp only [List.getElem_cons_zero] at m0
  replace hqv := NumN.below hqv hb7
  replace hgv := NumN.below hgv hb7
  have hr7' := hr7.set 0 (.pointer (some ⟨mg, 0, none⟩))
  have hB7' := below_setCell hB7 (p := ⟨w5.heap.size, 0, none⟩) hz5 (.pointer (some ⟨mg, 0, none⟩))
  have hs7 : ∀ S : Nat → Prop, (∀ b, S b → b ≠ w5.heap.size) → Same S w7 (w7.setCell ⟨w5.heap.size, 0, none⟩ (.pointer (some ⟨mg, 0, none⟩))) := fun S hS => same_setCell (Same.refl _ _) hS _
  obtain ⟨x7, hx7⟩ : ∃ x7, x7 = w7.setCell ⟨w5.heap.size, 0, none⟩ (.pointer (some ⟨mg, 0, none⟩)) := ⟨_, rfl⟩
  rw [← hx7] at hr7' hB7' hs7
  replace hqv := NumN.mono hqv (S' := Fresh w w2) (fun _ h => h) (hs7 _ (fun z hz e => by have := hz.2; omega))
  replace hgv := NumN.mono hgv (S' := Fresh w4 w5) (fun _ h => h) (hs7 _ (fun z hz e => by have := hz.2; omega))
  replace hM := ModP.mono hM (S' := Fresh w6 w7) (fun _ h => h) (hs7 _ (fun z hz e => by have := hz.1; omega))
  have hz7 : w5.heap.size < x7.heap.size := hr7'.lt
  have hz67 : w6.heap.size ≤ w7.heap.size := hb7.size
  have hz77 : w7.heap.size = x7.heap.size := by rw [hx7]; simp
  clear hr7 hrw hB6 hw6 hp1 hs7 hb7 hB7
  go_wp2_with fail
  rw [← hx7]
  refine (mnew_calls (num_raw hqv)).mono ?_
  rintro e w8 ⟨he, hb8⟩
  have hHodd : H % 2 = 1 := by
    rcases Nat.mod_two_eq_zero_or_one H with h | h
    · rcases hpq.out.only 2 (Nat.dvd_of_mod_eq_zero h) with h | h <;> omega
    · exact h
  unfold NewPost at he
  rw [if_neg (by omega), if_neg (by omega)] at he
  obtain ⟨sv, rfl, hN⟩ := he
  obtain ⟨ng, rfl⟩ := mod_ptr hN
  have hB8 := below_trans hB7' hb8
  have hr8 := hr7'.below hz7 hb8
  simp only [List.set_cons_zero] at hr8
  have m3 := hr8.cell 3 (by simp)
  have f3 := hr8.frozen 3
  have m2 := hr8.cell 2 (by simp)
  simp only [List.getElem_cons_zero, List.getElem_cons_succ] at m3 m2
  replace hqv := NumN.below hqv hb8
  replace hgv := NumN.below hgv hb8
  replace hM := ModP.below hM hb8
  have hr8' := hr8.set 3 (.pointer (some ⟨ng, 0, none⟩))
  simp only [List.set_cons_zero, List.set_cons_succ] at hr8'
  have hB8' := below_setCell hB8 (p := ⟨w5.heap.size, 3, none⟩) hz5 (.pointer (some ⟨ng, 0, none⟩))
  have hs8 : ∀ S : Nat → Prop, (∀ b, S b → b ≠ w5.heap.size) → Same S w8 (w8.setCell ⟨w5.heap.size, 3, none⟩ (.pointer (some ⟨ng, 0, none⟩))) := fun S hS => same_setCell (Same.refl _ _) hS _
  obtain ⟨x8, hx8⟩ : ∃ x8, x8 = w8.setCell ⟨w5.heap.size, 3, none⟩ (.pointer (some ⟨ng, 0, none⟩)) := ⟨_, rfl⟩
  rw [← hx8] at hr8' hB8' hs8
  have hz88 : w8.heap.size = x8.heap.size := by rw [hx8]; simp
  have hz78 : x7.heap.size ≤ w8.heap.size := hb8.size
  have hz04 : w.heap.size ≤ w4.heap.size := Nat.le_trans (Nat.le_of_lt hw3) (Nat.le_trans hb2.size hst.below.size)
  replace hqv := NumN.mono hqv (S' := Fresh w x8) (fun z hz => ⟨hz.1, by have := hz.2; omega⟩) (hs8 _ (fun z hz e => by have := hz.2; omega))
  replace hgv := NumN.mono hgv (S' := Fresh w x8) (fun z hz => ⟨by have := hz.1; omega, by have := hz.2; omega⟩) (hs8 _ (fun z hz e => by have := hz.2; omega))
  replace hM := ModP.mono hM (S' := Fresh w x8) (fun z hz => ⟨by have := hz.1; omega, by have := hz.2; omega⟩) (hs8 _ (fun z hz e => by have := hz.1; omega))
  replace hN := ModP.mono hN (S' := Fresh w x8) (fun z hz => ⟨by have := hz.1; omega, by have := hz.2; omega⟩) (hs8 _ (fun z hz e => by have := hz.1; omega))
  have hG : GrpP.rep (Fresh w x8) x8 (P, H, gn, gs) [.pointer (some ⟨w5.heap.size, 0, none⟩)] :=
    ⟨w5.heap.size, _, rfl, ⟨hz5, by omega⟩, by omega, hr8', [_], _, rfl, hM, [_], _, rfl, hqv, [_], _, rfl, hgv, [_], _, rfl, hN, rfl, hgsb⟩
  have hc2 := hr8'.cell 2 (by simp)
  have hc4 := hr8'.cell 4 (by simp)
  simp only [List.getElem_cons_zero, List.getElem_cons_succ] at hc2 hc4
  have hzx : w5.heap.size < x8.heap.size := by omega
  have hgr := raw_all (num_raw hgv)
  clear hs8 hB8 hr8 hr8' hB7' hr7' hM hN hqv hgv hb8 hHodd hz04 hz88 hz78 hz7 hz67 hz77 hz6 hz2
  go_wp2_with fail
  rw [← hx8]
  refine (gis_calls hG hgr lg).mono ?_
  rintro e w9 ⟨rfl, hb9⟩
  have hB9 := below_trans hB8' hb9
  clear hx8 hx7
  by_cases hE : elB P H gn = true
  rotate_left
  · have hE' : elB P H gn = false := by simpa using hE
    have hr : ∀ e w', e = .returned (.tuple #[.pointer none, .iface 38 (.int .i64 8)]) → GNewPost w e w' E := fun e w' he => by rw [hEq.out, if_pos (.inl hE')]; exact ⟨_, he, rfl⟩
    have Hr := hid hr
    rw [hE']
    clear hr hE hE'
    go_wp2_with fail
    go_ret2
    exact ⟨Hr.out _ _ rfl, hB9⟩
  rw [hE]
  have HE := hid hE
  clear hE
  have hb10 := below_alloc (Below.refl w9.heap.size w9) (.cells #[.int .u64 1] 65)
  have h1 := raw_all (num_raw (lit_num w9 1 (by omega) (by decide) _ rfl))
  have hc2' := (hb9.cell (p := ⟨w5.heap.size, 2, none⟩) hzx).trans hc2
  have hzx9 : w5.heap.size < w9.heap.size := Nat.lt_of_lt_of_le hzx hb9.size
  clear hc2
  go_wp2_with fail
  refine (cmp_calls (RawN.below hgr (below_trans hb9 hb10)) h1).mono ?_
  rintro e w11 ⟨rfl, hst1⟩
  have hb11 := below_trans hb10 hst1.below
  have hB11 := below_trans hB9 hb11
  by_cases hg1 : gn = 1
  · have hr : ∀ e w', e = .returned (.tuple #[.pointer none, .iface 38 (.int .i64 8)]) → GNewPost w e w' E := fun e w' he => by rw [hEq.out, if_pos (.inr hg1)]; exact ⟨_, he, rfl⟩
    have Hr := hid hr
    rw [cmp_eq hg1]
    clear hr hg1 hc2'
    go_wp2_with fail
    go_ret2
    exact ⟨Hr.out _ _ rfl, hB11⟩
  have hc1 : (Pl.cmp gn 1 == 0) = false := by rw [beq_eq_false_iff_ne, ne_eq, Pl.cmp_zero]; exact hg1
  have hc4' := ((below_trans hb9 hb11).cell (p := ⟨w5.heap.size, 4, none⟩) hzx).trans hc4
  replace hEq := hid (hEq.out.trans (if_neg (show ¬ (elB P H gn = false ∨ gn = 1) by rw [HE.out]; simp [hg1])))
  rw [← Hgs.out] at hEq
  clear hc4 hc2' hg1
  by_cases hg0 : gs = 0
  · have hr : ∀ e w', e = .returned (.tuple #[.pointer none, .iface 38 (.int .i64 14)]) → GNewPost w e w' E := fun e w' he => by rw [hEq.out, if_pos hg0]; exact ⟨_, he, rfl⟩
    have Hr := hid hr
    have hz : ((gs : Int) == 0) = true := by rw [hg0]; rfl
    clear hr hg0 hgsd
    go_wp2_with fail
    go_ret2
    exact ⟨Hr.out _ _ rfl, hB11⟩
  · have hz : ((gs : Int) == 0) = false := by rw [beq_eq_false_iff_ne, ne_eq]; omega
    replace hEq := hid (hEq.out.trans (if_neg hg0))
    clear hg0 hgsd
    have hGf := GrpP.mono (GrpP.below hG (below_trans hb9 hb11)) (S' := Fresh w w11) (Fresh.mono (Nat.le_refl _) (below_trans hb9 hb11).size) (Same.refl _ _)
    go_wp2_with fail
    go_ret2
    exact ⟨by rw [hEq.out]; exact ⟨_, rfl, hGf⟩, hB11⟩

end Go.Proofs.Ytphbacggmhjmgaa
