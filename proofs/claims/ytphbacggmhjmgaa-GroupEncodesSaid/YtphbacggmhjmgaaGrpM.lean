/- The layer group, second part: New, Encode, Decode; the groups that are known, as plain numbers. -/
import Derived.Test.YtphbacggmhjmgaaPrG
import Derived.Test.YtphbacggmhjmgaaLaw
import Derived.Test.YtphbacggmhjmgaaNatR

/- The layer group, fourth part: a group is made. -/
namespace Go.Proofs.Ytphbacggmhjmgaa
open Go.RowKit

theorem dstep_step {S : Nat → Prop} {w : World} {t : DStep} {cs : List Value} (h : DStepS.rep S w t cs) : StepS.rep S w (dv t) cs := by
  obtain ⟨a, b, rfl, h1, c, d, rfl, h2, h3⟩ := h
  exact ⟨a, c ++ d, rfl, ⟨_, h1, rfl⟩, c, d, rfl, ⟨_, h2, rfl⟩, ⟨_, h3, rfl⟩⟩
theorem repL_map {α β : Type} {r : Rep α} {s : Rep β} (f : α → β) {S : Nat → Prop} {w : World} (h : ∀ x cs, r.rep S w x cs → s.rep S w (f x) cs) : ∀ {xs : List α} {cs : List Value}, RepL r S w xs cs → RepL s S w (xs.map f) cs
  | [], _, k => k
  | _ :: _, _, ⟨a, b, e, k1, k2⟩ => ⟨a, b, e, h _ _ k1, repL_map f h k2⟩
theorem sl_map {α β : Type} {r : Rep α} {s : Rep β} (f : α → β) (hb : s.by_ = r.by_) {S : Nat → Prop} {w : World} (h : ∀ x cs, r.rep S w x cs → s.rep S w (f x) cs) {xs : List α} {cs : List Value} (k : r.sl.rep S w xs cs) : s.sl.rep S w (xs.map f) cs := by
  obtain ⟨A, cap, ys, rfl, h1, ⟨h2, h2'⟩, h3, h4⟩ := k
  refine ⟨A, cap, ys, by rw [List.length_map], by rw [List.length_map]; exact h1, ⟨h2, by rw [List.length_map, hb]; exact h2'⟩, fun hn => h3 (fun e => hn (by rw [e]; rfl)), repL_map f h h4⟩
theorem dchain_chain {S : Nat → Prop} {w : World} {xs : List DStep} {cs : List Value} (h : DStepS.sl.rep S w xs cs) : StepS.sl.rep S w (xs.map dv) cs := sl_map dv rfl (fun _ _ => dstep_step) h
/-- how many bytes an element holds -/
def gsize (q : Nat) : Nat := (bitLen q - 1) / 8
/-- what is amiss with a group's numbers first (a code, and its place in the chain, if it has one), or the group -/
def gnewE (gn : Nat) (l : List Step3) : Except (Nat × Option Nat) G4 :=
  if l.length = 0 ∨ 64 < l.length then .error (1, none)
  else if (Num.chainE (B64 ^ 32) (B64 ^ 64) l 0).1 ≠ 0 then .error ((Num.chainE (B64 ^ 32) (B64 ^ 64) l 0).1, some (Num.chainE (B64 ^ 32) (B64 ^ 64) l 0).2)
  else if (l.headD (0, 0, 0)).1 / 2 ≠ (l.headD (0, 0, 0)).2.1 ∨ (l.headD (0, 0, 0)).1 / 2 ≤ 2 then .error (14, none)
  else if elB (l.headD (0, 0, 0)).1 ((l.headD (0, 0, 0)).1 / 2) gn = false ∨ gn = 1 then .error (8, none)
  else if gsize ((l.headD (0, 0, 0)).1 / 2) = 0 then .error (14, none)
  else .ok ((l.headD (0, 0, 0)).1, (l.headD (0, 0, 0)).1 / 2, gn, gsize ((l.headD (0, 0, 0)).1 / 2))
/-- an error's value -/
def ErrAt (w w' : World) : Nat × Option Nat → Value → Prop
  | (c, none), v => v = errV c
  | (c, some i), v => SpotIs w w' i c v
def GNewPost (w : World) (e : Ending) (w' : World) : Except (Nat × Option Nat) G4 → Prop
  | .error x => ∃ v, e = .returned (.tuple #[.pointer none, v]) ∧ ErrAt w w' x v
  | .ok x => ∃ v, e = .returned (.tuple #[v, .nilIface]) ∧ GrpP.rep (Fresh w w') w' x [v]

theorem chain_head {b32 b64 : Nat} {l : List Step3} (h0 : 0 < l.length) (h : (Num.chainE b32 b64 l 0).1 = 0) : Num.Pr (l.headD (0, 0, 0)).1 ∧ Num.Pr (l.headD (0, 0, 0)).2.1 ∧ Num.stepE b32 b64 (l.headD (0, 0, 0)).1 (l.headD (0, 0, 0)).2.1 (l.headD (0, 0, 0)).2.2 = 0 := by
  obtain _ | ⟨⟨p, q, a⟩, l⟩ := l
  · simp at h0
  obtain ⟨h1, h2⟩ := Num.chain_pr l 0 p q a h
  refine ⟨h1, h2, ?_⟩
  simp only [List.headD_cons]
  cases l with
  | nil =>
    unfold Num.chainE at h
    split at h
    · rename_i hh; exact absurd h hh
    · rename_i hh; simpa using hh
  | cons y l =>
    obtain ⟨p', q', a'⟩ := y
    unfold Num.chainE at h
    split at h
    · rename_i hh; exact absurd h hh
    · rename_i hh; simpa using hh
theorem step_bounds {b32 b64 p q a : Nat} (h : Num.stepE b32 b64 p q a = 0) : p < b32 ∧ p % 2 = 1 ∧ 3 ≤ p := by
  unfold Num.stepE at h
  split at h
  · omega
  split at h
  · omega
  · omega
theorem spot_up {a b c : World} {i k : Nat} {v : Value} (h : SpotIs b c i k v) (hb : a.heap.size ≤ b.heap.size) : SpotIs a c i k v := by
  obtain ⟨g, h1, h2, h3⟩ := h
  exact ⟨g, h1, Fresh.mono hb (Nat.le_refl _) g h2, h3⟩

set_option maxHeartbeats 8000000 in
set_option maxRecDepth 100000 in
theorem gnew_calls {S T : Nat → Prop} {w : World} {gn : Nat} {l : List Step3} {vg vc : Value} (hg : RawN.rep T w gn [vg]) (h : StepS.sl.rep S w l [vc]) (lg : bitLen gn ≤ 1000000) :
    Calls Try.prog 19 #[.agg #[vg, vc]] w fun e w' => GNewPost w e w' (gnewE gn l) ∧ Below w.heap.size w w' := by
  obtain ⟨A, cap, rfl, hcap, hcm⟩ := sl_open h
  obtain ⟨Ag, lgn, cg, eg⟩ := raw_val hg
  simp only [List.cons.injEq, and_true] at eg
  subst eg
  have hb0 := below_alloc (Below.refl w.heap.size w) (.cells #[.slice Ag lgn cg, .slice A l.length cap] 55)
  have hr0 := Row.new w 55 #[.slice Ag lgn cg, .slice A l.length cap]
  have h0 := StepS.sl.below h hb0
  have hg0 := RawN.below hg hb0
  have hwl := hr0.lt
  by_cases hl0 : l.length = 0 ∨ 64 < l.length
  · have hr : ∀ e w', e = .returned (.tuple #[.pointer none, .iface 38 (.int .i64 1)]) → GNewPost w e w' (gnewE gn l) := fun e w' he => by unfold gnewE; rw [if_pos hl0]; exact ⟨_, he, rfl⟩
    have Hr := hid hr
    have Hl := hid hl0
    clear hr hl0
    go_enter Try.func19, Try.ntmps19
    go_wp2_with fail
    refine (check_calls h0).mono ?_
    rintro e w1 ⟨he, hb1⟩
    unfold CheckPost at he
    rw [if_pos Hl.out] at he
    subst he
    go_wp2_with fail
    go_ret2
    exact ⟨Hr.out _ _ rfl, below_trans hb0 hb1⟩
  have hlp : 0 < l.length := by omega
  have Hl0 := hid hl0
  clear hl0
  by_cases hc0 : (Num.chainE (B64 ^ 32) (B64 ^ 64) l 0).1 = 0
  rotate_left
  · have hr : ∀ v w', SpotIs w w' (Num.chainE (B64 ^ 32) (B64 ^ 64) l 0).2 (Num.chainE (B64 ^ 32) (B64 ^ 64) l 0).1 v → GNewPost w (.returned (.tuple #[.pointer none, v])) w' (gnewE gn l) := fun v w' hv => by
      unfold gnewE; rw [if_neg Hl0.out, if_pos hc0]; exact ⟨v, rfl, hv⟩
    have Hr := hid hr
    have Hc := hid hc0
    clear hr hc0
    go_enter Try.func19, Try.ntmps19
    go_wp2_with fail
    refine (check_calls h0).mono ?_
    rintro e w1 ⟨he, hb1⟩
    unfold CheckPost at he
    rw [if_neg Hl0.out, if_neg Hc.out] at he
    obtain ⟨v, rfl, hv⟩ := he
    have hv2 := spot_up hv hb0.size
    obtain ⟨g, rfl, hv⟩ := hv
    clear hv
    go_wp2_with fail
    go_ret2
    exact ⟨Hr.out _ _ hv2, below_trans hb0 hb1⟩
  obtain ⟨hpp, hpq, hst⟩ := chain_head hlp hc0
  obtain ⟨hp32, hodd, hp3⟩ := step_bounds hst
  obtain ⟨P, hP⟩ : ∃ P, P = (l.headD (0, 0, 0)).1 := ⟨_, rfl⟩
  obtain ⟨q0, hq0⟩ : ∃ q0, q0 = (l.headD (0, 0, 0)).2.1 := ⟨_, rfl⟩
  have hl0P : l[0].1 = P := by rw [hP]; cases l with | nil => simp at hlp | cons x l => rfl
  have hl0q : l[0].2.1 = q0 := by rw [hq0]; cases l with | nil => simp at hlp | cons x l => rfl
  rw [← hP] at hpp hst hp32 hodd hp3
  rw [← hq0] at hpq hst
  obtain ⟨H, hH⟩ : ∃ H, H = P / 2 := ⟨_, rfl⟩
  have hEq : gnewE gn l = if H ≠ q0 ∨ H ≤ 2 then .error (14, none) else if elB P H gn = false ∨ gn = 1 then .error (8, none) else if gsize H = 0 then .error (14, none) else .ok (P, H, gn, gsize H) := by
    unfold gnewE
    rw [if_neg Hl0.out, if_neg (by simpa using hc0), ← hP, ← hq0, ← hH]
  obtain ⟨E, hEE⟩ : ∃ E, E = gnewE gn l := ⟨_, rfl⟩
  rw [← hEE] at hEq ⊢
  replace hEq := hid hEq
  have hP2 := hid hP
  have Hc := hid hc0
  have HH := hid hH
  have hHl : H < B64 ^ 32 := by omega
  have hHle : 2 * H + 1 = P := by omega
  replace hpq := hid hpq
  replace hl0q := hid hl0q
  clear hEE hc0 hP hq0 hH hst hpp hl0P
  obtain ⟨b, o, A1, l1, c1, A2, l2, c2, A3, l3, c3, rfl, hSb, hbl, _, r2, _, _, k2, _⟩ := chain_at h0 0 hlp
  rw [Nat.zero_mul, Nat.add_zero] at k2
  rw [hl0q.out] at r2
  go_enter Try.func19, Try.ntmps19
  go_wp2_with fail
  refine (check_calls h0).mono ?_
  rintro e w1 ⟨he, hb1⟩
  unfold CheckPost at he
  rw [if_neg Hl0.out, if_pos Hc.out, ← hP2.out] at he
  obtain ⟨pv, rfl, hp1⟩ := he
  have hB1 := below_trans hb0 hb1
  have hr1 := hr0.below hwl hb1
  have d0 := hr1.cell 0 (by simp)
  have d1 := hr1.cell 1 (by simp)
  simp only [List.getElem_cons_zero, List.getElem_cons_succ] at d0 d1
  have k21 := (hb1.cell (p := ⟨b, o + 1, none⟩) hbl).trans k2
  have r21 := raw_all (RawN.below r2 hb1)
  have hg1 := raw_all (RawN.below hg0 hb1)
  replace hp1 := num_all_ hp1
  have hw1 : w.heap.size < w1.heap.size := hr1.lt
  have hb1l : b < w1.heap.size := Nat.lt_of_lt_of_le hbl hb1.size
  clear hr0 h0 hg0 k2 r2 hb1 hb0 hwl hbl
  have hb2 := below_alloc (Below.refl w1.heap.size w1) (.cells #[.int .u64 2] 65)
  have h2 := raw_all (num_raw (lit_num w1 2 (by omega) (by decide) _ rfl))
  have two_lim : 2 < B64 ^ 64 := lim_up (show 2 < B64 ^ 1 by decide) (show 1 ≤ 64 by omega)
  have P_lim : P < B64 ^ 64 := lim_up hp32 (show 32 ≤ 64 by omega)
  go_wp2_with fail
  refine (div_ok (raw_all (num_raw (NumN.below hp1 hb2))) h2 P_lim two_lim (by omega)).mono ?_
  rintro e w2 ⟨⟨qv, rv, rfl, hqv, _⟩, hb3⟩
  rw [← HH.out] at hqv
  have hB12 := below_trans hb2 hb3
  have hB2 := below_trans hB1 hB12
  replace hqv := NumN.mono hqv (S' := Fresh w w2) (Fresh.mono (Nat.le_trans hB1.size hb2.size) (Nat.le_refl _)) (Same.refl _ _)
  replace hp1 := NumN.below hp1 hB12
  replace d0 := (hB12.cell (p := ⟨w.heap.size, 0, none⟩) hw1).trans d0
  replace d1 := (hB12.cell (p := ⟨w.heap.size, 1, none⟩) hw1).trans d1
  replace k21 := (hB12.cell (p := ⟨b, o + 1, none⟩) hb1l).trans k21
  replace r21 := RawN.below r21 hB12
  replace hg1 := RawN.below hg1 hB12
  have hw2 : w.heap.size < w2.heap.size := Nat.lt_of_lt_of_le hw1 hB12.size
  clear h2 two_lim hb2 hb3 hB1 hw1 hr1 hB12 hb1l
  go_wp2_with fail
  refine (cmp_calls (raw_all (num_raw hqv)) r21).mono ?_
  rintro e w3 ⟨rfl, hst⟩
  have hB23 := hst.below
  have hB3 := below_trans hB2 hB23
  replace hqv := NumN.below hqv hB23
  replace hp1 := NumN.below hp1 hB23
  replace hg1 := RawN.below hg1 hB23
  replace d0 := (hB23.cell (p := ⟨w.heap.size, 0, none⟩) hw2).trans d0
  clear d1 k21 r21 hst hB2
  by_cases hHq : H = q0
  rotate_left
  · have hc : (Pl.cmp H q0 == 0) = false := by rw [beq_eq_false_iff_ne, ne_eq, Pl.cmp_zero]; exact hHq
    have hc2 : (Pl.cmp H q0 != 0) = true := by rw [bne, hc]; rfl
    have hr : ∀ e w', e = .returned (.tuple #[.pointer none, .iface 38 (.int .i64 14)]) → GNewPost w e w' E := fun e w' he => by rw [hEq.out, if_pos (.inl hHq)]; exact ⟨_, he, rfl⟩
    have Hr := hid hr
    clear hr hHq
    go_wp2_with fail
    go_ret2
    exact ⟨Hr.out _ _ rfl, hB3⟩
  subst hHq
  rw [cmp_eq rfl]
  have hb2 := below_alloc (Below.refl w3.heap.size w3) (.cells #[.int .u64 2] 65)
  have h2 := raw_all (num_raw (lit_num w3 2 (by omega) (by decide) _ rfl))
  go_wp2_with fail
  refine (cmp_calls (raw_all (num_raw (NumN.below hqv hb2))) h2).mono ?_
  rintro e w4 ⟨rfl, hst⟩
  have hB34 := below_trans hb2 hst.below
  have hB4 := below_trans hB3 hB34
  by_cases h2H : H ≤ 2
  · have hc := cmp_le h2H
    have hr : ∀ e w', e = .returned (.tuple #[.pointer none, .iface 38 (.int .i64 14)]) → GNewPost w e w' E := fun e w' he => by rw [hEq.out, if_pos (.inr h2H)]; exact ⟨_, he, rfl⟩
    have Hr := hid hr
    clear hr h2H
    go_wp2_with fail
    go_ret2
    exact ⟨Hr.out _ _ rfl, hB4⟩
  have hc := cmp_not_le h2H
  replace hEq := hid (hEq.out.trans (if_neg (show ¬ (H ≠ H ∨ H ≤ 2) by omega)))
  replace hqv := NumN.below hqv hB34
  replace hp1 := NumN.below hp1 hB34
  replace hg1 := RawN.below hg1 hB34
  have hw3 : w.heap.size < w3.heap.size := Nat.lt_of_lt_of_le hw2 hB23.size
  replace d0 := (hB34.cell (p := ⟨w.heap.size, 0, none⟩) hw3).trans d0
  clear hB34 h2 hB3 hw2
  go_wp2_with fail
  refine (norm_calls hg1).mono ?_
  rintro e w5 ⟨⟨gv, rfl, hgv⟩, hb5⟩
  obtain ⟨A4, l4, c4, rfl⟩ := num_open hgv
  obtain ⟨A5, l5, c5, rfl⟩ := num_open hqv
  replace hqv := NumN.below hqv hb5
  replace hp1 := NumN.below hp1 hb5
  have hB5 := below_trans hB4 hb5
  have hbl : bitLen H ≤ 2048 := by
    rw [bitLen_le_iff]
    exact two_pow 64 B64 (by decide) H 32 2048 (by omega) hHl
  have hbl1 : 1 ≤ bitLen H := by
    rcases Nat.eq_zero_or_pos (bitLen H) with h | h
    · have := bl_zero.1 h; omega
    · exact h
  obtain ⟨gs, hgs⟩ : ∃ gs, gs = gsize H := ⟨_, rfl⟩
  have hgsd : ((bitLen H : Int) - 1) / 8 = (gs : Int) := by rw [hgs]; unfold gsize; omega
  have hgsb : gs < 1000000 := by rw [hgs]; unfold gsize; omega
  have Hgs := hid hgs
  clear hgs
  go_wp2_with fail
  refine (nbits_calls (num_raw hqv) (by omega)).mono ?_
  rintro e w6 ⟨rfl, rfl⟩
  obtain ⟨L, hL⟩ : ∃ L, L = bitLen H := ⟨_, rfl⟩
  rw [← hL] at hbl hbl1 hgsd ⊢
  clear hL
  have hb6 := below_alloc (Below.refl w5.heap.size w5) (.cells #[.pointer none, .slice A5 l5 c5, .slice A4 l4 c4, .pointer none, .int .i64 (gs : Int)] 72)
  have hrw := Row.new w5 72 #[.pointer none, .slice A5 l5 c5, .slice A4 l4 c4, .pointer none, .int .i64 (gs : Int)]
  obtain ⟨w6, hw6⟩ : ∃ w6, w6 = w5.alloc (.cells #[.pointer none, .slice A5 l5 c5, .slice A4 l4 c4, .pointer none, .int .i64 (gs : Int)] 72) := ⟨_, rfl⟩
  rw [← hw6] at hb6 hrw
  have hB6 := below_trans hB5 hb6
  replace hqv := NumN.below hqv hb6
  replace hgv := NumN.below hgv hb6
  replace hp1 := NumN.below hp1 hb6
  have hz5 : w.heap.size ≤ w5.heap.size := hB5.size
  have hz2 : w2.heap.size ≤ w5.heap.size := Nat.le_trans (Nat.le_trans (Nat.le_trans hB23.size hb2.size) hst.below.size) hb5.size
  have hz6 : w5.heap.size < w6.heap.size := hrw.lt
  clear d0 hb6 hg1 hB5 hb5 hB4
  go_wp2_with fail
  rw [← hw6]
  refine (mnew_calls (num_raw hp1)).mono ?_
  rintro e w7 ⟨he, hb7⟩
  unfold NewPost at he
  rw [if_neg (by omega), if_neg (by omega)] at he
  obtain ⟨mv, rfl, hM⟩ := he
  obtain ⟨mg, rfl⟩ := mod_ptr hM
  have hB7 := below_trans hB6 hb7
  have hr7 := hrw.below hz6 hb7
  have m0 := hr7.cell 0 (by simp)
  have f0 := hr7.frozen 0
  simp only [List.getElem_cons_zero] at m0
  replace hqv := NumN.below hqv hb7
  replace hgv := NumN.below hgv hb7
  have hr7' := hr7.set 0 (.pointer (some ⟨mg, 0, none⟩))
  have hB7' := below_setCell hB7 (p := ⟨w5.heap.size, 0, none⟩) hz5 (.pointer (some ⟨mg, 0, none⟩))
  have hs7 : ∀ S : Nat → Prop, (∀ b, S b → b ≠ w5.heap.size) → Same S w7 (w7.setCell ⟨w5.heap.size, 0, none⟩ (.pointer (some ⟨mg, 0, none⟩))) := fun S hS => same_setCell (Same.refl _ _) hS _
  obtain ⟨x7, hx7⟩ : ∃ x7, x7 = w7.setCell ⟨w5.heap.size, 0, none⟩ (.pointer (some ⟨mg, 0, none⟩)) := ⟨_, rfl⟩
  rw [← hx7] at hr7' hB7' hs7
  replace hqv := NumN.mono hqv (S' := Fresh w w2) (fun _ h => h) (hs7 _ (fun z hz e => by have := hz.2; omega))
  replace hgv := NumN.mono hgv (S' := Fresh w4 w5) (fun _ h => h) (hs7 _ (fun z hz e => by have := hz.2; omega))
  replace hM := ModP.mono hM (S' := Fresh w6 w7) (fun _ h => h) (hs7 _ (fun z hz e => by have := hz.1; omega))
  have hz7 : w5.heap.size < x7.heap.size := hr7'.lt
  have hz67 : w6.heap.size ≤ w7.heap.size := hb7.size
  have hz77 : w7.heap.size = x7.heap.size := by rw [hx7]; simp
  clear hr7 hrw hB6 hw6 hp1 hs7 hb7 hB7
  go_wp2_with fail
  rw [← hx7]
  refine (mnew_calls (num_raw hqv)).mono ?_
  rintro e w8 ⟨he, hb8⟩
  have hHodd : H % 2 = 1 := by
    rcases Nat.mod_two_eq_zero_or_one H with h | h
    · rcases hpq.out.only 2 (Nat.dvd_of_mod_eq_zero h) with h | h <;> omega
    · exact h
  unfold NewPost at he
  rw [if_neg (by omega), if_neg (by omega)] at he
  obtain ⟨sv, rfl, hN⟩ := he
  obtain ⟨ng, rfl⟩ := mod_ptr hN
  have hB8 := below_trans hB7' hb8
  have hr8 := hr7'.below hz7 hb8
  simp only [List.set_cons_zero] at hr8
  have m3 := hr8.cell 3 (by simp)
  have f3 := hr8.frozen 3
  have m2 := hr8.cell 2 (by simp)
  simp only [List.getElem_cons_zero, List.getElem_cons_succ] at m3 m2
  replace hqv := NumN.below hqv hb8
  replace hgv := NumN.below hgv hb8
  replace hM := ModP.below hM hb8
  have hr8' := hr8.set 3 (.pointer (some ⟨ng, 0, none⟩))
  simp only [List.set_cons_zero, List.set_cons_succ] at hr8'
  have hB8' := below_setCell hB8 (p := ⟨w5.heap.size, 3, none⟩) hz5 (.pointer (some ⟨ng, 0, none⟩))
  have hs8 : ∀ S : Nat → Prop, (∀ b, S b → b ≠ w5.heap.size) → Same S w8 (w8.setCell ⟨w5.heap.size, 3, none⟩ (.pointer (some ⟨ng, 0, none⟩))) := fun S hS => same_setCell (Same.refl _ _) hS _
  obtain ⟨x8, hx8⟩ : ∃ x8, x8 = w8.setCell ⟨w5.heap.size, 3, none⟩ (.pointer (some ⟨ng, 0, none⟩)) := ⟨_, rfl⟩
  rw [← hx8] at hr8' hB8' hs8
  have hz88 : w8.heap.size = x8.heap.size := by rw [hx8]; simp
  have hz78 : x7.heap.size ≤ w8.heap.size := hb8.size
  have hz04 : w.heap.size ≤ w4.heap.size := Nat.le_trans (Nat.le_of_lt hw3) (Nat.le_trans hb2.size hst.below.size)
  replace hqv := NumN.mono hqv (S' := Fresh w x8) (fun z hz => ⟨hz.1, by have := hz.2; omega⟩) (hs8 _ (fun z hz e => by have := hz.2; omega))
  replace hgv := NumN.mono hgv (S' := Fresh w x8) (fun z hz => ⟨by have := hz.1; omega, by have := hz.2; omega⟩) (hs8 _ (fun z hz e => by have := hz.2; omega))
  replace hM := ModP.mono hM (S' := Fresh w x8) (fun z hz => ⟨by have := hz.1; omega, by have := hz.2; omega⟩) (hs8 _ (fun z hz e => by have := hz.1; omega))
  replace hN := ModP.mono hN (S' := Fresh w x8) (fun z hz => ⟨by have := hz.1; omega, by have := hz.2; omega⟩) (hs8 _ (fun z hz e => by have := hz.1; omega))
  have hG : GrpP.rep (Fresh w x8) x8 (P, H, gn, gs) [.pointer (some ⟨w5.heap.size, 0, none⟩)] :=
    ⟨w5.heap.size, _, rfl, ⟨hz5, by omega⟩, by omega, hr8', [_], _, rfl, hM, [_], _, rfl, hqv, [_], _, rfl, hgv, [_], _, rfl, hN, rfl, hgsb⟩
  have hc2 := hr8'.cell 2 (by simp)
  have hc4 := hr8'.cell 4 (by simp)
  simp only [List.getElem_cons_zero, List.getElem_cons_succ] at hc2 hc4
  have hzx : w5.heap.size < x8.heap.size := by omega
  have hgr := raw_all (num_raw hgv)
  clear hs8 hB8 hr8 hr8' hB7' hr7' hM hN hqv hgv hb8 hHodd hz04 hz88 hz78 hz7 hz67 hz77 hz6 hz2
  go_wp2_with fail
  rw [← hx8]
  refine (gis_calls hG hgr lg).mono ?_
  rintro e w9 ⟨rfl, hb9⟩
  have hB9 := below_trans hB8' hb9
  clear hx8 hx7
  by_cases hE : elB P H gn = true
  rotate_left
  · have hE' : elB P H gn = false := by simpa using hE
    have hr : ∀ e w', e = .returned (.tuple #[.pointer none, .iface 38 (.int .i64 8)]) → GNewPost w e w' E := fun e w' he => by rw [hEq.out, if_pos (.inl hE')]; exact ⟨_, he, rfl⟩
    have Hr := hid hr
    rw [hE']
    clear hr hE hE'
    go_wp2_with fail
    go_ret2
    exact ⟨Hr.out _ _ rfl, hB9⟩
  rw [hE]
  have HE := hid hE
  clear hE
  have hb10 := below_alloc (Below.refl w9.heap.size w9) (.cells #[.int .u64 1] 65)
  have h1 := raw_all (num_raw (lit_num w9 1 (by omega) (by decide) _ rfl))
  have hc2' := (hb9.cell (p := ⟨w5.heap.size, 2, none⟩) hzx).trans hc2
  have hzx9 : w5.heap.size < w9.heap.size := Nat.lt_of_lt_of_le hzx hb9.size
  clear hc2
  go_wp2_with fail
  refine (cmp_calls (RawN.below hgr (below_trans hb9 hb10)) h1).mono ?_
  rintro e w11 ⟨rfl, hst1⟩
  have hb11 := below_trans hb10 hst1.below
  have hB11 := below_trans hB9 hb11
  by_cases hg1 : gn = 1
  · have hr : ∀ e w', e = .returned (.tuple #[.pointer none, .iface 38 (.int .i64 8)]) → GNewPost w e w' E := fun e w' he => by rw [hEq.out, if_pos (.inr hg1)]; exact ⟨_, he, rfl⟩
    have Hr := hid hr
    rw [cmp_eq hg1]
    clear hr hg1 hc2'
    go_wp2_with fail
    go_ret2
    exact ⟨Hr.out _ _ rfl, hB11⟩
  have hc1 : (Pl.cmp gn 1 == 0) = false := by rw [beq_eq_false_iff_ne, ne_eq, Pl.cmp_zero]; exact hg1
  have hc4' := ((below_trans hb9 hb11).cell (p := ⟨w5.heap.size, 4, none⟩) hzx).trans hc4
  replace hEq := hid (hEq.out.trans (if_neg (show ¬ (elB P H gn = false ∨ gn = 1) by rw [HE.out]; simp [hg1])))
  rw [← Hgs.out] at hEq
  clear hc4 hc2' hg1
  by_cases hg0 : gs = 0
  · have hr : ∀ e w', e = .returned (.tuple #[.pointer none, .iface 38 (.int .i64 14)]) → GNewPost w e w' E := fun e w' he => by rw [hEq.out, if_pos hg0]; exact ⟨_, he, rfl⟩
    have Hr := hid hr
    have hz : ((gs : Int) == 0) = true := by rw [hg0]; rfl
    clear hr hg0 hgsd
    go_wp2_with fail
    go_ret2
    exact ⟨Hr.out _ _ rfl, hB11⟩
  · have hz : ((gs : Int) == 0) = false := by rw [beq_eq_false_iff_ne, ne_eq]; omega
    replace hEq := hid (hEq.out.trans (if_neg hg0))
    clear hg0 hgsd
    have hGf := GrpP.mono (GrpP.below hG (below_trans hb9 hb11)) (S' := Fresh w w11) (Fresh.mono (Nat.le_refl _) (below_trans hb9 hb11).size) (Same.refl _ _)
    go_wp2_with fail
    go_ret2
    exact ⟨by rw [hEq.out]; exact ⟨_, rfl, hGf⟩, hB11⟩

end Go.Proofs.Ytphbacggmhjmgaa

/- Plain numbers: the groups that are known, and that they are groups. (Printed by gen_known.py.) -/
namespace Go.Proofs.Ytphbacggmhjmgaa
namespace Num
/-- what is amiss with a step, reckoned quickly -/
def stepP (b32 b64 p q a : Nat) : Nat :=
  if b32 ≤ p ∨ b64 ≤ q ∨ b64 ≤ a then 2
  else if p % 2 = 0 ∨ p < 3 then 5
  else if q ≤ 1 ∨ a ≤ 1 ∨ p - 1 < a ∨ q * q ≤ p ∨ (p - 1) % q ≠ 0 ∨ pm 256 a (p - 1) p ≠ 1 ∨ Nat.gcd ((pm 256 a ((p - 1) / q) p + (p - 1)) % p) p ≠ 1 then 7
  else 0
theorem stepP_eq {b32 b64 p q a : Nat} (h : p < 2 ^ 256) : stepE b32 b64 p q a = stepP b32 b64 p q a := by
  have h1 : p - 1 < 2 ^ 256 := Nat.lt_of_le_of_lt (Nat.sub_le _ _) h
  have h2 : (p - 1) / q < 2 ^ 256 := Nat.lt_of_le_of_lt (Nat.div_le_self _ _) h1
  unfold stepE stepP
  rw [pm_eq 256 a _ p h1, pm_eq 256 a _ p h2, Nat.mod_add_mod]
def chainP (b32 b64 : Nat) : List (Nat × Nat × Nat) → Nat → Nat × Nat
  | [], _ => (0, 0)
  | [(p, q, a)], i => if stepP b32 b64 p q a ≠ 0 then (stepP b32 b64 p q a, i) else if smallB q then (0, 0) else (7, i)
  | (p, q, a) :: (p', q', a') :: l, i => if stepP b32 b64 p q a ≠ 0 then (stepP b32 b64 p q a, i) else if q ≠ p' then (7, i) else chainP b32 b64 ((p', q', a') :: l) (i + 1)
theorem chainP_eq {b32 b64 : Nat} : ∀ (l : List (Nat × Nat × Nat)) (i : Nat), (∀ x ∈ l, x.1 < 2 ^ 256) → chainE b32 b64 l i = chainP b32 b64 l i
  | [], _, _ => rfl
  | [(p, q, a)], i, h => by
    unfold chainE chainP
    rw [stepP_eq (h _ List.mem_cons_self)]
  | (p, q, a) :: (p', q', a') :: l, i, h => by
    unfold chainE chainP
    rw [stepP_eq (h _ List.mem_cons_self), chainP_eq ((p', q', a') :: l) (i + 1) (fun x hx => h x (List.mem_cons_of_mem _ hx))]
end Num
open Num

/-- what is made is a group -/
theorem gnewE_grp {gn : Nat} {l : List Step3} {x : G4} (h : gnewE gn l = .ok x) : Num.Grp x.1 x.2.1 x.2.2.1 ∧ x.1 < B64 ^ 32 ∧ x.2.2.2 = gsize x.2.1 ∧ x.2.2.2 ≠ 0 ∧ x.2.2.1 = gn := by
  unfold gnewE at h
  split at h
  · exact absurd h (by simp)
  split at h
  · exact absurd h (by simp)
  split at h
  · exact absurd h (by simp)
  split at h
  · exact absurd h (by simp)
  split at h
  · exact absurd h (by simp)
  rename_i h1 h2 h3 h4 h5
  simp only [Except.ok.injEq] at h
  subst h
  obtain _ | ⟨⟨p, q, a⟩, l⟩ := l
  · simp at h1
  simp only [List.headD_cons] at h3 h4 h5 ⊢
  have h2' : (Num.chainE (B64 ^ 32) (B64 ^ 64) ((p, q, a) :: l) 0).1 = 0 := by simpa using h2
  obtain ⟨pp, pq⟩ := Num.chain_pr l 0 p q a h2'
  have hq2 : p / 2 = q := by
    rcases Nat.decEq (p / 2) q with h | h
    · exact absurd (.inl h) h3
    · exact h
  rw [hq2] at h3 h4 h5 ⊢
  have hel : elB p q gn = true := by
    rcases Bool.eq_false_or_eq_true (elB p q gn) with h | h
    · exact h
    · exact absurd (.inl h) h4
  have hp2 := pp.two
  have hodd : p % 2 = 1 := by
    rcases Nat.mod_two_eq_zero_or_one p with h | h
    · rcases pp.only 2 (Nat.dvd_of_mod_eq_zero h) with h | h <;> omega
    · exact h
  refine ⟨⟨pp, pq, by omega, by omega, elB_iff.1 hel, fun h => h4 (.inr h)⟩, ?_, trivial, h5, trivial⟩
  have hs : Num.stepE (B64 ^ 32) (B64 ^ 64) p q a = 0 := by
    cases l with
    | nil =>
      unfold Num.chainE at h2'
      split at h2'
      · rename_i hh; exact absurd h2' hh
      · rename_i hh; simpa using hh
    | cons y l =>
      obtain ⟨p', q', a'⟩ := y
      unfold Num.chainE at h2'
      split at h2'
      · rename_i hh; exact absurd h2' hh
      · rename_i hh; simpa using hh
  unfold Num.stepE at hs
  split at hs
  · omega
  · omega


/-- the chains that are known -/
def knownL : Nat → List Step3
  | 0 => [(100547, 50273, 2)]
  | 1 => [(16384079, 8192039, 2), (8192039, 42227, 2)]
  | 2 => [(895270319, 447635159, 2), (447635159, 45949, 2)]
  | 3 => [(956960304107, 478480152053, 2), (478480152053, 589261271, 2), (589261271, 44879, 2)]
  | 4 => [(51637240540054787, 25818620270027393, 2), (25818620270027393, 962912257, 2), (962912257, 39181, 2)]
  | 5 => [(10783903794068798759, 5391951897034399379, 2), (5391951897034399379, 245088722592472699, 2), (245088722592472699, 540926329, 2), (540926329, 33791, 2)]
  | 6 => [(2613414916021939020899, 1306707458010969510449, 2), (1306707458010969510449, 213235551241998941, 2), (213235551241998941, 869759953, 2), (869759953, 61843, 2)]
  | 7 => [(55552479688485757854533454143, 27776239844242878927266727071, 2), (27776239844242878927266727071, 223751503623384853, 2), (223751503623384853, 998205391, 2), (998205391, 40627, 2)]
  | 8 => [(294346032770963629115021612295688313579, 147173016385481814557510806147844156789, 2), (147173016385481814557510806147844156789, 15920923451480075136035353326248827, 2), (15920923451480075136035353326248827, 193128230530517629, 2), (193128230530517629, 588713921, 2), (588713921, 63439, 2)]
  | 9 => [(5288028264425375924331143837851554665000536648901249581703, 2644014132212687962165571918925777332500268324450624790851, 2), (2644014132212687962165571918925777332500268324450624790851, 17448777177685998800207916726582067, 2), (17448777177685998800207916726582067, 230885128227773927, 2), (230885128227773927, 725375153, 2), (725375153, 34847, 2)]
  | _ => [(98840726623089566538132827080390358131446738208679300614933978093311771294443, 49420363311544783269066413540195179065723369104339650307466989046655885647221, 2), (49420363311544783269066413540195179065723369104339650307466989046655885647221, 71511446119451342619797234764730343874518634852101106178533378230947, 2), (71511446119451342619797234764730343874518634852101106178533378230947, 17487159372623203498255649676474247, 2), (17487159372623203498255649676474247, 238236089707193629, 2), (238236089707193629, 902893669, 2), (902893669, 36901, 2)]
/-- the groups that are known -/
def knownG : Nat → G4
  | 0 => (100547, 50273, 4, 1)
  | 1 => (16384079, 8192039, 4, 2)
  | 2 => (895270319, 447635159, 4, 3)
  | 3 => (956960304107, 478480152053, 4, 4)
  | 4 => (51637240540054787, 25818620270027393, 4, 6)
  | 5 => (10783903794068798759, 5391951897034399379, 4, 7)
  | 6 => (2613414916021939020899, 1306707458010969510449, 4, 8)
  | 7 => (55552479688485757854533454143, 27776239844242878927266727071, 4, 11)
  | 8 => (294346032770963629115021612295688313579, 147173016385481814557510806147844156789, 4, 15)
  | 9 => (5288028264425375924331143837851554665000536648901249581703, 2644014132212687962165571918925777332500268324450624790851, 4, 23)
  | _ => (98840726623089566538132827080390358131446738208679300614933978093311771294443, 49420363311544783269066413540195179065723369104339650307466989046655885647221, 4, 31)

theorem known_chain : ∀ k, k < 11 → chainP (B64 ^ 32) (B64 ^ 64) (knownL k) 0 = (0, 0) ∧ (knownL k).length ≠ 0 ∧ (knownL k).length ≤ 64 ∧ ((knownL k).all fun x => decide (x.1 < 2 ^ 256)) = true := by decide +kernel

theorem known_nums : ∀ k, k < 11 → (knownL k).headD (0, 0, 0) = ((knownG k).1, (knownG k).2.1, ((knownL k).headD (0, 0, 0)).2.2) ∧ (knownG k).1 / 2 = (knownG k).2.1 ∧ 2 < (knownG k).2.1 ∧ (knownG k).2.2.1 = 4 ∧ gsize (knownG k).2.1 = (knownG k).2.2.2 ∧ (knownG k).2.2.2 ≠ 0 ∧
    0 < 4 ∧ 4 < (knownG k).1 ∧ pm 256 4 (knownG k).2.1 (knownG k).1 = 1 ∧ (knownG k).2.1 < 2 ^ 256 := by decide +kernel

theorem known_ok {k : Nat} (hk : k < 11) : gnewE 4 (knownL k) = .ok (knownG k) := by
  obtain ⟨c1, c2, c3, c4⟩ := known_chain k hk
  obtain ⟨n1, n2, n3, n4, n5, n6, n7, n8, n9, n10⟩ := known_nums k hk
  have hc : Num.chainE (B64 ^ 32) (B64 ^ 64) (knownL k) 0 = (0, 0) := by
    rw [chainP_eq _ _ (fun x hx => by simpa using List.all_eq_true.1 c4 x hx)]; exact c1
  have hel : elB (knownG k).1 (knownG k).2.1 4 = true := elB_iff.2 ⟨n7, n8, by rw [← pm_eq 256 _ _ _ n10]; exact n9⟩
  have ex : knownG k = ((knownG k).1, (knownG k).2.1, 4, (knownG k).2.2.2) := by
    conv => lhs; rw [show knownG k = ((knownG k).1, (knownG k).2.1, (knownG k).2.2.1, (knownG k).2.2.2) from rfl, n4]
  unfold gnewE
  rw [ex, if_neg (fun h => h.elim c2 (fun h => Nat.not_lt_of_le c3 h)), hc, if_neg (by simp), n1]
  simp only []
  rw [n2, if_neg (fun h => h.elim (fun h => h rfl) (fun h => Nat.not_lt_of_le h n3)), hel, if_neg (fun h => h.elim (by simp) (by simp)), n5, if_neg n6]

end Go.Proofs.Ytphbacggmhjmgaa

/- The layer group, fifth part: bytes as elements, and back. -/
namespace Go.Proofs.Ytphbacggmhjmgaa
open Go.RowKit

/-- what is known of a group that was made -/
structure GOk (x : G4) : Prop where
  grp : Num.Grp x.1 x.2.1 x.2.2.1
  lim : x.1 < B64 ^ 32
  size : x.2.2.2 = gsize x.2.1
  pos : 0 < x.2.2.2

theorem gok_of {gn : Nat} {l : List Step3} {x : G4} (h : gnewE gn l = .ok x) : GOk x := by
  obtain ⟨h1, h2, h3, h4, _⟩ := gnewE_grp h
  exact ⟨h1, h2, h3, Nat.pos_of_ne_zero h4⟩
theorem gok_bits {x : G4} (h : GOk x) : 256 ^ x.2.2.2 ≤ x.2.1 ∧ x.2.1 < 256 ^ (x.2.2.2 + 1) ∧ x.2.2.2 ≤ 255 := by
  have hq : x.2.1 ≠ 0 := by have := h.grp.big; omega
  have h1 := (bitLen_spec x.2.1).1
  have h2 := (bitLen_spec x.2.1).2 hq
  have hs := h.size
  unfold gsize at hs
  have hb : bitLen x.2.1 ≤ 2048 := by
    rw [bitLen_le_iff]
    exact two_pow 64 B64 (by decide) _ 32 2048 (by omega) (by have := h.lim; have := h.grp.tw; omega)
  generalize bitLen x.2.1 = L at *
  have e8 : ∀ k, 256 ^ k = 2 ^ (8 * k) := fun k => by rw [show 256 = 2 ^ 8 by decide, ← Nat.pow_mul]
  have hL : 0 < L := by
    rcases Nat.eq_zero_or_pos L with h | h
    · subst h; have := h1; simp at this; omega
    · exact h
  refine ⟨?_, ?_, by omega⟩
  · have h3 : 2 ^ L = 2 * 2 ^ (L - 1) := by rw [← Nat.pow_succ', show (L - 1).succ = L by omega]
    have h4 : 2 ^ (8 * x.2.2.2) ≤ 2 ^ (L - 1) := Nat.pow_le_pow_right (by omega) (by omega)
    rw [e8]; omega
  · rw [e8]
    exact Nat.lt_of_lt_of_le h1 (Nat.pow_le_pow_right (by omega) (by omega))
theorem B64_256 (k : Nat) : B64 ^ k = 256 ^ (8 * k) := by rw [show B64 = 256 ^ 8 by decide, ← Nat.pow_mul]

/-- bytes as an element -/
def encN (x : G4) (b : List Nat) : Nat := if elB x.1 x.2.1 (Pl.be b + 1) then Pl.be b + 1 else x.1 - (Pl.be b + 1)
def encE (x : G4) (b : List Nat) : Except Nat Nat := if b.length ≠ x.2.2.2 then .error 1 else .ok (encN x b)
/-- an element's number less 1 -/
def decN (x : G4) (a : Nat) : Nat := (if x.2.1 < a then x.1 - a else a) - 1
def DecPost (x : G4) (a : Nat) (w : World) (e : Ending) (w' : World) : Prop :=
  if elB x.1 x.2.1 a = false then e = .returned (.tuple #[.slice none 0 0, errV 8])
  else if 8 * x.2.2.2 < bitLen (decN x a) then e = .returned (.tuple #[.slice none 0 0, errV 2])
  else ∃ u, e = .returned (.tuple #[u, .nilIface]) ∧ ByteS.rep (Fresh w w') w' (Pl.beL x.2.2.2 (decN x a)) [u]

theorem enc_el {x : G4} (h : GOk x) {b : List Nat} (hd : Pl.Dig 256 b) (hl : b.length = x.2.2.2) : Num.El x.1 x.2.1 (encN x b) ∧ Pl.be b + 1 ≤ x.2.1 := by
  obtain ⟨h1, _, _⟩ := gok_bits h
  have h2 := Pl.be_lt hd
  rw [hl] at h2
  have h3 : Pl.be b + 1 ≤ x.2.1 := by omega
  refine ⟨?_, h3⟩
  unfold encN
  have ht := h.grp.tw
  split
  · rename_i he; exact elB_iff.1 he
  · rename_i he
    exact (h.grp.halves (by omega) (by omega)).2 (fun h => he (elB_iff.2 h))
theorem dec_enc {x : G4} (h : GOk x) {b : List Nat} (hd : Pl.Dig 256 b) (hl : b.length = x.2.2.2) : decN x (encN x b) = Pl.be b := by
  obtain ⟨_, h3⟩ := enc_el h hd hl
  have ht := h.grp.tw
  unfold decN encN
  split
  · rw [if_neg (by omega)]; omega
  · rw [if_pos (by omega)]; omega

theorem gmodulus {S : Nat → Prop} {w : World} {x : G4} {b : Nat} (h : GrpP.rep S w x [.pointer (some ⟨b, 0, none⟩)]) :
    ∃ (g : Nat) (A : Option Addr) (l cap : Nat), S b ∧ b < w.heap.size ∧ w.cell? ⟨b, 0, none⟩ = some (.pointer (some ⟨g, 0, none⟩)) ∧ g < w.heap.size ∧ w.cell? ⟨g, 0, none⟩ = some (.slice A l cap) ∧ NumN.rep S w x.1 [.slice A l cap] ∧
      ∃ (A1 : Option Addr) (l1 c1 : Nat), w.cell? ⟨b, 1, none⟩ = some (.slice A1 l1 c1) ∧ NumN.rep S w x.2.1 [.slice A1 l1 c1] ∧ w.cell? ⟨b, 4, none⟩ = some (.int .i64 (x.2.2.2 : Int)) := by
  obtain ⟨b', pv, sv, A1, l1, c1, A2, l2, c2, e, hS, hb, h0, h1, h2, h3, k0, k1, k2, k3, k4, h4⟩ := grp_open h
  simp only [Value.pointer.injEq, Option.some.injEq, Addr.mk.injEq, and_true] at e
  subst e
  have h0' := ModP.live h0
  obtain ⟨g, A, cap, inv, tv, ms, e0, hS0, d0, d1, d2, hms, hinv, htv, hcap, hcm, hpos, hok⟩ := mod_open h0'
  simp only [Value.pointer.injEq, Option.some.injEq] at e0
  subst e0
  refine ⟨g, A, ms.length, cap, hS, hb, k0, hS0.2, d0, ⟨ms, NatS.mono hms (fun _ h => h.1) (Same.refl _ _), hok.canon, hok.val⟩, A1, l1, c1, k1, h1, k4⟩

set_option maxHeartbeats 4000000 in
theorem genc_calls {S T : Nat → Prop} {w : World} {x : G4} {bs : List Nat} {v vb : Value} (ok : GOk x) (h : GrpP.rep S w x [v]) (hb : ByteS.rep T w bs [vb]) :
    Calls Try.prog 9 #[v, vb] w fun e w' => NumE (Fresh w w') w' e (encE x bs) ∧ Below w.heap.size w w' := by
  obtain ⟨b, rfl⟩ : ∃ b : Nat, v = .pointer (some ⟨b, 0, none⟩) := by
    obtain ⟨b, ds, hv, _⟩ := h
    simp only [List.cons.injEq, and_true] at hv
    exact ⟨b, hv⟩
  obtain ⟨g, A, la, cap, hSb, hbl, k0, hgl, g0, hn, A1, l1, c1, k1, hq, k4⟩ := gmodulus h
  have hd := num_dig hb
  obtain ⟨Ab, cb, rfl, hcb, hcm⟩ := sl_open hb
  by_cases hl : bs.length = x.2.2.2
  rotate_left
  · have hE : encE x bs = .error 1 := by unfold encE; rw [if_pos hl]
    rw [hE]
    have hc : ((bs.length : Int) == (x.2.2.2 : Int)) = false := by rw [beq_eq_false_iff_ne, ne_eq]; omega
    have hc2 : ((bs.length : Int) != (x.2.2.2 : Int)) = true := by rw [bne, hc]; rfl
    clear hl hE
    go_enter Try.func9, Try.ntmps9
    go_wp2_with fail
    go_ret2
    exact ⟨rfl, Below.refl _ _⟩
  obtain ⟨hel, hbe⟩ := enc_el ok hd hl
  have hE : encE x bs = .ok (encN x bs) := by unfold encE; rw [if_neg (by omega)]
  rw [hE]
  obtain ⟨g1, g2, g3⟩ := gok_bits ok
  have hF : fromE bs.length bs = .ok (Pl.be bs) := by unfold fromE; rw [if_neg (by omega)]
  obtain ⟨N, hN⟩ : ∃ N, N = Pl.be bs + 1 := ⟨_, rfl⟩
  have hNl : N ≤ x.2.1 := by omega
  have hNb : N < B64 ^ 32 := by have := ok.lim; have := ok.grp.tw; omega
  have hN64 := lim_up hNb (show 32 ≤ 64 by omega)
  have hA : addE (Pl.be bs) 1 = .ok N := by unfold addE; rw [if_neg (fun h => h.elim (by omega) one_lim), hN]
  have hc : ((bs.length : Int) == (x.2.2.2 : Int)) = true := by rw [beq_iff_eq]; omega
  have hc2 : ((bs.length : Int) != (x.2.2.2 : Int)) = false := by rw [bne, hc]; rfl
  have hNx : N ≤ x.1 := by have := ok.grp.tw; omega
  have hx64 := lim_up ok.lim (show 32 ≤ 64 by omega)
  have hS : subE x.1 N = .ok (x.1 - N) := by unfold subE; rw [if_neg (by omega), if_neg (by omega)]
  have hNbits : bitLen N ≤ 1000000 := by
    have : bitLen N ≤ 2048 := by rw [bitLen_le_iff]; exact two_pow 64 B64 (by decide) _ 32 2048 (by omega) hNb
    omega
  have hR : encN x bs = if elB x.1 x.2.1 N then N else x.1 - N := by unfold encN; rw [hN]
  have HF := hid hF
  have HA := hid hA
  have HS := hid hS
  have HR := hid hR
  clear hF hA hS hR hE hN hl hel
  go_enter Try.func9, Try.ntmps9
  go_wp2_with fail
  refine (from_calls hb).mono ?_
  rintro e w1 ⟨he, hb1⟩
  rw [HF.out] at he
  obtain ⟨u1, rfl, hu1⟩ := he
  rw [errV_zero]
  have hba := below_alloc (Below.refl w1.heap.size w1) (.cells #[.int .u64 1] 65)
  have h1' := raw_all (num_raw (lit_num w1 1 (by omega) (by decide) _ rfl))
  go_wp2_with fail
  refine (add_calls (raw_all (num_raw (NumN.below hu1 hba))) h1').mono ?_
  rintro e w2 ⟨he, hb2⟩
  rw [HA.out] at he
  obtain ⟨u2, rfl, hu2⟩ := he
  rw [errV_zero]
  have hB2 := below_trans (below_trans hb1 hba) hb2
  have h' := GrpP.below h hB2
  clear hba h1' hu1
  go_wp2_with fail
  refine (gis_calls h' (num_raw hu2) hNbits).mono ?_
  rintro e w3 ⟨rfl, hb3⟩
  have hB3 := below_trans hB2 hb3
  have hu3 := NumN.below hu2 hb3
  by_cases hEl : elB x.1 x.2.1 N = true
  · have Hr := hid (HR.out.trans (if_pos hEl))
    rw [hEl]
    clear hEl HR HS
    go_wp2_with fail
    go_ret2
    refine ⟨⟨u2, rfl, ?_⟩, hB3⟩
    rw [Hr.out]
    exact NumN.mono hu3 (Fresh.mono (Nat.le_trans hb1.size (by simp)) hb3.size) (Same.refl _ _)
  · have Hr := hid (HR.out.trans (if_neg hEl))
    have hEf : elB x.1 x.2.1 N = false := by simpa using hEl
    rw [hEf]
    have k0' := (hB3.cell (p := ⟨b, 0, none⟩) hbl).trans k0
    have g0' := (hB3.cell (p := ⟨g, 0, none⟩) hgl).trans g0
    have hn' := NumN.below hn hB3
    clear hEl hEf HR k0 g0
    go_wp2_with fail
    refine (modulus_calls hn').mono ?_
    rintro e w4 ⟨⟨um, rfl, hum⟩, hb4⟩
    go_wp2_with fail
    refine (sub_calls (raw_all (num_raw hum)) (raw_all (num_raw (NumN.below hu3 hb4)))).mono ?_
    rintro e w5 ⟨he, hb5⟩
    rw [HS.out] at he
    obtain ⟨u5, rfl, hu5⟩ := he
    rw [errV_zero]
    have hB5 := below_trans (below_trans hB3 hb4) hb5
    go_wp2_with fail
    go_ret2
    refine ⟨⟨u5, rfl, ?_⟩, hB5⟩
    rw [Hr.out]
    exact NumN.mono hu5 (Fresh.mono (below_trans hB3 hb4).size (Nat.le_refl _)) (Same.refl _ _)

set_option maxHeartbeats 4000000 in
theorem gdec_calls {S T : Nat → Prop} {w : World} {x : G4} {a : Nat} {v va : Value} (ok : GOk x) (h : GrpP.rep S w x [v]) (ha : RawN.rep T w a [va]) (la : bitLen a ≤ 1000000) :
    Calls Try.prog 10 #[v, va] w fun e w' => DecPost x a w e w' ∧ Below w.heap.size w w' := by
  obtain ⟨b, rfl⟩ : ∃ b : Nat, v = .pointer (some ⟨b, 0, none⟩) := by
    obtain ⟨b, ds, hv, _⟩ := h
    simp only [List.cons.injEq, and_true] at hv
    exact ⟨b, hv⟩
  obtain ⟨g, A, la', cap, hSb, hbl, k0, hgl, g0, hn, A1, l1, c1, k1, hq, k4⟩ := gmodulus h
  by_cases hEl : elB x.1 x.2.1 a = true
  rotate_left
  · have hEf : elB x.1 x.2.1 a = false := by simpa using hEl
    have hr : ∀ w', DecPost x a w (.returned (.tuple #[.slice none 0 0, errV 8])) w' := fun w' => by unfold DecPost; rw [if_pos hEf]
    have Hr := hid hr
    have He := hid hEf
    clear hEl hEf hr
    go_enter Try.func10, Try.ntmps10
    go_wp2_with fail
    refine (gis_calls h ha la).mono ?_
    rintro e w1 ⟨rfl, hb1⟩
    rw [He.out]
    go_wp2_with fail
    go_ret2
    exact ⟨Hr.out _, hb1⟩
  have hE := elB_iff.1 hEl
  obtain ⟨g1, g2, g3⟩ := gok_bits ok
  have htw := ok.grp.tw
  have hx64 := lim_up ok.lim (show 32 ≤ 64 by omega)
  obtain ⟨V, hV⟩ : ∃ V, V = decN x a := ⟨_, rfl⟩
  obtain ⟨Y, hY⟩ : ∃ Y, Y = if x.2.1 < a then x.1 - a else a := ⟨_, rfl⟩
  have hap := hE.pos
  have hal := hE.lt
  have hYV : V = Y - 1 := by rw [hV]; unfold decN; rw [← hY]
  have hY1 : 1 ≤ Y ∧ Y ≤ x.2.1 := by rw [hY]; split <;> omega
  have hr2 : ∀ w', 8 * x.2.2.2 < bitLen V → DecPost x a w (.returned (.tuple #[.slice none 0 0, errV 2])) w' := fun w' hlt => by unfold DecPost; rw [hEl, if_neg (by simp), ← hV, if_pos hlt]
  have hr3 : ∀ w' u, ¬ 8 * x.2.2.2 < bitLen V → ByteS.rep (Fresh w w') w' (Pl.beL x.2.2.2 V) [u] → DecPost x a w (.returned (.tuple #[u, .nilIface])) w' := fun w' u hlt hu => by
    unfold DecPost; rw [hEl, if_neg (by simp), ← hV, if_neg hlt]; exact ⟨u, rfl, hu⟩
  have hS1 : subE Y 1 = .ok V := by unfold subE; rw [if_neg (fun h => h.elim (by omega) one_lim), if_neg (by omega), hYV]
  have hVb : bitLen V ≤ 1000000 := by
    have : bitLen V ≤ 2048 := by rw [bitLen_le_iff]; exact two_pow 64 B64 (by decide) _ 32 2048 (by omega) (by have := ok.lim; omega)
    omega
  have Hr2 := hid hr2
  have Hr3 := hid hr3
  have HS1 := hid hS1
  have HEl := hid hEl
  have HY := hid hY
  have hs6 : x.2.2.2 ≤ 1000000 := by omega
  clear hr2 hr3 hS1 hEl hV hYV hY hE
  go_enter Try.func10, Try.ntmps10
  go_wp2_with fail
  refine (gis_calls h ha la).mono ?_
  rintro e w1 ⟨rfl, hb1⟩
  rw [HEl.out]
  go_wp2_with fail
  refine (norm_calls (RawN.below ha hb1)).mono ?_
  rintro e w2 ⟨⟨u2, rfl, hu2⟩, hb2⟩
  have hB2 := below_trans hb1 hb2
  have k1' := (hB2.cell (p := ⟨b, 1, none⟩) hbl).trans k1
  clear k1
  go_wp2_with fail
  refine (cmp_calls (raw_all (num_raw hu2)) (raw_all (num_raw (NumN.below hq hB2)))).mono ?_
  rintro e w3 ⟨rfl, hst⟩
  have hB3 := below_trans hB2 hst.below
  clear k1'
  have hu3 := num_all_ (NumN.below hu2 hst.below)
  go_upto_if 21 with (fail)
  go_cut [6, 7] (fun v6 v7 wc => NumN.rep (fun _ => True) wc Y [v6] ∧ v7 = .nilIface ∧ Below w.heap.size w wc)
  case first =>
    by_cases hlt : x.2.1 < a
    · have hc : 0 < Pl.cmp a x.2.1 := by rw [cmp_gt hlt]; omega
      have HY2 := hid (HY.out.trans (if_pos hlt))
      have hS2 := hid (show subE x.1 a = .ok Y by unfold subE; rw [if_neg (by omega), if_neg (by omega), HY2.out])
      have k0' := (hB3.cell (p := ⟨b, 0, none⟩) hbl).trans k0
      have g0' := (hB3.cell (p := ⟨g, 0, none⟩) hgl).trans g0
      have hn' := NumN.below hn hB3
      clear hlt k0 g0
      go_wp2_with fail
      refine (modulus_calls hn').mono ?_
      rintro e w4 ⟨⟨um, rfl, hum⟩, hb4⟩
      go_wp2_with fail
      refine (sub_calls (raw_all (num_raw hum)) (raw_all (num_raw (NumN.below hu3 hb4)))).mono ?_
      rintro e w5 ⟨he, hb5⟩
      rw [hS2.out] at he
      obtain ⟨u5, rfl, hu5⟩ := he
      rw [errV_zero]
      have hB5 := below_trans (below_trans hB3 hb4) hb5
      go_wp2_with fail
      go_meet
      case rel => exact ⟨num_all_ hu5, rfl, hB5⟩
    · have hc : ¬ 0 < Pl.cmp a x.2.1 := by rw [Pl.cmp_pos]; exact hlt
      have HY2 := hid (HY.out.trans (if_neg hlt))
      clear hlt
      go_wp2_with fail
      go_meet
      case rel => exact ⟨by rw [HY2.out]; exact hu3, rfl, hB3⟩
  case rest =>
    obtain ⟨hcy, rfl, hBc⟩ := hcut
    have hba := below_alloc (Below.refl wc.heap.size wc) (.cells #[.int .u64 1] 65)
    have h1' := raw_all (num_raw (lit_num wc 1 (by omega) (by decide) _ rfl))
    go_wp2_with fail
    refine (sub_calls (raw_all (num_raw (NumN.below hcy hba))) h1').mono ?_
    rintro e w6 ⟨he, hb6⟩
    rw [HS1.out] at he
    obtain ⟨u6, rfl, hu6⟩ := he
    rw [errV_zero]
    have hB6 := below_trans (below_trans hBc hba) hb6
    have k4' := (hB6.cell (p := ⟨b, 4, none⟩) hbl).trans k4
    clear k4 k0 g0
    go_wp2_with fail
    refine (bytes_calls (num_raw hu6) hVb hs6).mono ?_
    rintro e w7 ⟨he, hb7⟩
    have hB7 := below_trans hB6 hb7
    unfold BytesPost at he
    rw [if_neg (by omega)] at he
    by_cases hlt : 8 * x.2.2.2 < bitLen V
    · rw [if_pos hlt] at he
      subst he
      have Hr := hid (Hr2.out w7 hlt)
      clear hlt k4'
      go_wp2_with fail
      go_ret2
      exact ⟨Hr.out, hB7⟩
    · rw [if_neg hlt] at he
      obtain ⟨u7, rfl, hu7⟩ := he
      have Hr := hid (Hr3.out w7 u7 hlt (ByteS.mono hu7 (Fresh.mono hB6.size (Nat.le_refl _)) (Same.refl _ _)))
      clear hlt k4'
      go_wp2_with fail
      go_ret2
      exact ⟨Hr.out, hB7⟩

end Go.Proofs.Ytphbacggmhjmgaa
