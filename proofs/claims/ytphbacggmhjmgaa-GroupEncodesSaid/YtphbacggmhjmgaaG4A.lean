/- The statements on group, first part: what they share. -/
import Derived.Test.YtphbacggmhjmgaaKnownM
import Derived.Test.YtphbacggmhjmgaaGrpM
namespace Go.Proofs.Ytphbacggmhjmgaa
open Go.RowKit

theorem gExpE_ok {P Q a s : Nat} (h : elB P Q a = true) (hs : s < B64 ^ 64) : gExpE P Q a s = .ok (a ^ (s % Q) % P) := by unfold gExpE; rw [h, if_pos rfl, if_neg (by omega)]
theorem gMulE_ok {P Q a b : Nat} (h : elB P Q a = true) (k : elB P Q b = true) : gMulE P Q a b = .ok (a * b % P) := by unfold gMulE; rw [h, k]; rfl
theorem gOverE_ok {P Q a b : Nat} (h : elB P Q a = true) (k : elB P Q b = true) : gOverE P Q a b = .ok (a * (b ^ (Q - 1) % P) % P) := by unfold gOverE; rw [h, k]; rfl

theorem one4_calls {w : World} {S : Nat → Prop} {x : Nat} {v : Value} (h : NumN.rep S w x [v]) :
    Calls Try.prog 25 #[v] w fun e w' => e = .returned (.bool (decide (x = 1))) ∧ w = w' := by
  obtain ⟨xs, hxs, hc, hv⟩ := h
  have hd := num_dig hxs
  obtain ⟨A, cap, rfl, hcap, hcm⟩ := sl_open hxs
  by_cases hl : xs.length = 1
  · obtain ⟨d, rfl⟩ : ∃ d, xs = [d] := List.length_eq_one_iff.1 hl
    rw [Pl.val_one] at hv
    subst hv
    obtain ⟨b, o, rfl, _, hcell, hbd⟩ := num_at hxs 0 (by simp)
    have hcell' : w.cell? ⟨b, o, none⟩ = some (.int .u64 (d : Int)) := by simpa using hcell
    have hr : Hid (decide (d = 1) = ((d : Int) == 1)) := by
      show _ = _
      rw [Bool.eq_iff_iff, decide_eq_true_iff, beq_iff_eq]; omega
    simp only [List.length_singleton]
    clear hcell hl
    rw [hr.out]
    go_enter Try.func25, Try.ntmps25
    go_wp2
    go_ret
    exact ⟨rfl, rfl⟩
  · have hx1 : Hid (decide (x = 1) = false) := by
      show _ = _
      rw [decide_eq_false_iff_not]
      intro h1
      have h2 := (Pl.canon_len_le (n := 1) B64_gt hd hc).2 (by rw [hv, h1]; decide)
      rcases Nat.eq_zero_or_pos xs.length with h | h
      · obtain rfl := List.eq_nil_of_length_eq_zero h
        rw [Pl.val_nil] at hv; omega
      · omega
    have hl1 : ((xs.length : Int) == 1) = false := by rw [beq_eq_false_iff_ne, ne_eq]; omega
    rw [hx1.out]
    clear hl hv hc hd
    go_enter Try.func25, Try.ntmps25
    go_wp2
    go_ret
    exact ⟨rfl, rfl⟩

/-- the example's group -/
def upG : G4 := (100547, 50273, 4, 1)
theorem up_new : gnewE 4 [(100547, 50273, 2)] = .ok upG := known_ok (k := 0) (by omega)
theorem up_chain (w : World) (os : List Obj) (hj : 4 < os.length) (h1 : os[os.length - 1 - 1]? = some (.cells #[.int .u64 100547] 65)) (h2 : os[os.length - 1 - 2]? = some (.cells #[.int .u64 50273] 65)) (h3 : os[os.length - 1 - 3]? = some (.cells #[.int .u64 2] 65))
    (h4 : os[os.length - 1 - 4]? = some (.cells #[.slice (some ⟨w.heap.size + 1, 0, none⟩) 1 1, .slice (some ⟨w.heap.size + 2, 0, none⟩) 1 1, .slice (some ⟨w.heap.size + 3, 0, none⟩) 1 1] 67)) :
    DStepS.sl.rep (Fresh w (revAllocs w os)) (revAllocs w os) [([100547], [50273], [2])] [.slice (some ⟨w.heap.size + 4, 0, none⟩) 1 1] := by
  have hr := revAllocs_row w (cs := [.slice (some ⟨w.heap.size + 1, 0, none⟩) 1 1, .slice (some ⟨w.heap.size + 2, 0, none⟩) 1 1, .slice (some ⟨w.heap.size + 3, 0, none⟩) 1 1]) os 4 hj h4
  refine chain_row hr ⟨Nat.le_add_right _ _, hr.lt⟩ ?_ rfl (by decide)
  exact ⟨[_, _, _], _, rfl, ⟨[_], [_, _], rfl, lits_dig w os (ds := [100547]) rfl (by omega) h1 (by decide +kernel) (by decide), [_], [_], rfl, lits_dig w os (ds := [50273]) rfl (by omega) h2 (by decide +kernel) (by decide), lits_dig w os (ds := [2]) rfl (by omega) h3 (by decide +kernel) (by decide)⟩, rfl⟩

theorem bits_small {n : Nat} (h : n < B64 ^ 100) : bitLen n ≤ 1000000 := by
  have : bitLen n ≤ 6400 := by rw [bitLen_le_iff]; exact two_pow 64 B64 (by decide) n 100 6400 (by omega) h
  omega
theorem lit_lim {n : Nat} (h : n < 18446744073709551616) (k : Nat) (hk : 1 ≤ k) : n < B64 ^ k := lim_up (show n < B64 ^ 1 by rw [Nat.pow_one]; exact h) hk
/-- a slice of one number that is made here -/
theorem lit_raw (w : World) (x : Nat) (hx : x < B64) (g : Nat) (hg : g = w.heap.size) : RawN.rep (fun _ => True) (w.alloc (.cells #[.int .u64 (x : Int)] 65)) x [.slice (some ⟨g, 0, none⟩) 1 1] := by
  subst hg
  have hr : Row (w.alloc (.cells #[.int .u64 (x : Int)] 65)) w.heap.size 65 (nums .u64 [x]) := Row.new w 65 #[.int .u64 (x : Int)]
  exact ⟨[x], hr.slNum (B := B64) (S := fun _ => True) trivial (Pl.Dig.one hx) 1 (by simp) (by omega) (by simp), Pl.val_one _ _⟩
theorem row_bytes1 (w : World) (x : Nat) (hx : x < 256) (g : Nat) (hg : g = w.heap.size) : ByteS.rep (fun _ => True) (w.alloc (.cells #[.int .u8 (x : Int)] 5)) [x] [.slice (some ⟨g, 0, none⟩) 1 1] := by
  subst hg
  have hr : Row (w.alloc (.cells #[.int .u8 (x : Int)] 5)) w.heap.size 5 (nums .u8 [x]) := Row.new w 5 #[.int .u8 (x : Int)]
  exact hr.slNum (B := 256) (S := fun _ => True) trivial (Pl.Dig.one hx) 1 (by simp) (by omega) (by simp)
theorem raw_nil (S : Nat → Prop) (w : World) : RawN.rep S w 0 [.slice none 0 0] := num_raw (NumN.zero S w)

theorem gnew_ok {S T : Nat → Prop} {w : World} {gn : Nat} {l : List Step3} {x : G4} {vg vc : Value} (hg : RawN.rep T w gn [vg]) (h : StepS.sl.rep S w l [vc]) (lg : bitLen gn ≤ 1000000) (hE : gnewE gn l = .ok x) :
    Calls Try.prog 19 #[.agg #[vg, vc]] w fun e w' => (∃ b : Nat, e = .returned (.tuple #[.pointer (some ⟨b, 0, none⟩), .nilIface]) ∧ GrpP.rep (· < w'.heap.size) w' x [.pointer (some ⟨b, 0, none⟩)]) ∧ Below w.heap.size w w' := by
  refine (gnew_calls hg h lg).mono fun e w' ⟨he, hb⟩ => ⟨?_, hb⟩
  rw [hE] at he
  obtain ⟨v, rfl, hG⟩ := he
  obtain ⟨b, rfl⟩ := grp_ptr hG
  exact ⟨b, rfl, GrpP.old hG⟩

set_option maxHeartbeats 8000000 in
set_option maxRecDepth 100000 in
theorem gup_calls (w : World) : Calls Try.prog 7 #[] w fun e w' => e = .returned (.bool true) ∧ Below w.heap.size w w' := by
  have ee1 := fun W => code_eql 1 1 W
  obtain ⟨os, hos⟩ : ∃ os : List Obj, os = [.cells #[.slice (some ⟨w.heap.size + 1, 0, none⟩) 1 1, .slice (some ⟨w.heap.size + 2, 0, none⟩) 1 1, .slice (some ⟨w.heap.size + 3, 0, none⟩) 1 1] 67, .cells #[.int .u64 2] 65, .cells #[.int .u64 50273] 65, .cells #[.int .u64 100547] 65, .cells #[.int .u64 4] 65] := ⟨_, rfl⟩
  have hc := dchain_chain (up_chain w os (by rw [hos]; simp) (by rw [hos]; rfl) (by rw [hos]; rfl) (by rw [hos]; rfl) (by rw [hos]; rfl))
  rw [show [([100547], [50273], [2])].map dv = [(100547, 50273, 2)] from rfl] at hc
  have hg := lits_nat w os (j := 0) (ds := [4]) (x := 4) rfl (by rw [hos]; simp) (by rw [hos]; rfl) (by decide +kernel) (by decide) (by decide)
  have hB := revAllocs_below w os
  rw [hos] at hc hg hB
  clear hos os
  have ok := hid (gok_of up_new)
  have E4 := hid (show elB upG.1 upG.2.1 4 = true by decide +kernel)
  have E2 := hid (show elB upG.1 upG.2.1 2 = false by decide +kernel)
  have E0 := hid (show elB upG.1 upG.2.1 0 = false by decide +kernel)
  have eg := hid (show upG.2.2.1 = 4 from rfl)
  have es := hid (show upG.2.2.2 = 1 from rfl)
  have X1 := hid (show gExpE upG.1 upG.2.1 4 50273 = .ok 1 by rw [gExpE_ok E4.out (lit_lim (by omega) 64 (by omega)), show upG.2.1 = 50273 from rfl, Nat.mod_self, Nat.pow_zero]; rfl)
  have un := hid up_new
  obtain ⟨x, hx⟩ : ∃ x, x = upG := ⟨_, rfl⟩
  rw [← hx] at ok E4 E2 E0 eg es X1 un
  clear hx
  have X2 := hid (show gOverE x.1 x.2.1 4 4 = .ok 1 by rw [gOverE_ok E4.out E4.out, (elB_iff.1 E4.out).back (by have := ok.out.grp.big; omega)])
  have enc := hid (enc_el ok.out (b := [7]) (Pl.Dig.one (by omega)) es.out.symm)
  have X3 := hid (show encE x [7] = .ok (encN x [7]) by unfold encE; rw [es.out]; rfl)
  have X4 := hid (show encE x [] = .error 1 by unfold encE; rw [es.out]; rfl)
  have X5 := hid (show decN x (encN x [7]) = 7 by rw [dec_enc ok.out (Pl.Dig.one (by omega)) es.out.symm]; rfl)
  go_enter Try.func7, Try.ntmps7
  go_wp2_with fail
  refine (gnew_ok hg hc (bits_small (lit_lim (by omega) 100 (by omega))) un.out).mono ?_
  rintro e w1 ⟨⟨b, rfl, hG⟩, hb⟩
  replace hB := below_trans hB hb
  clear hb hc hg
  go_wp2_with fail
  refine (gscalars_calls hG).mono ?_
  rintro e w2 ⟨⟨us, rfl, _⟩, rfl⟩
  have hba := below_bs (w := w1) (.cells #[.int .u64 50273] 65)
  go_wp2_with fail
  refine (gbase_calls (rep_up hG hba) (lit_raw w1 50273 (by decide) _ rfl) (bits_small (by rw [eg.out]; exact lit_lim (by omega) 100 (by omega)))).mono ?_
  rintro e w2 ⟨he, hb⟩
  rw [eg.out, X1.out] at he
  obtain ⟨av, rfl, ha⟩ := he
  rw [errV_zero]
  replace hb := below_trans hba hb
  replace hG := rep_up hG hb
  replace hB := below_trans hB hb
  replace ha := NumN.old ha
  clear hba hb
  have hba := below_trans (below_bs (w := w2) (.cells #[.int .u64 4] 65)) (below_bs (.cells #[.int .u64 4] 65))
  go_wp2_with fail
  refine (gover_calls (rep_up hG hba) (RawN.below (lit_raw w2 4 (by decide) _ rfl) (below_bs _)) (lit_raw _ 4 (by decide) _ (by simp)) (bits_small (lit_lim (by omega) 100 (by omega))) (bits_small (lit_lim (by omega) 100 (by omega)))).mono ?_
  rintro e w3 ⟨he, hb⟩
  rw [X2.out] at he
  obtain ⟨bv, rfl, hbn⟩ := he
  rw [errV_zero]
  replace hb := below_trans hba hb
  replace hG := rep_up hG hb
  replace hB := below_trans hB hb
  replace ha := rep_up ha hb
  replace hbn := NumN.old hbn
  clear hba hb
  have hba := below_bs (w := w3) (.cells #[.int .u8 7] 5)
  go_wp2_with fail
  refine (genc_calls ok.out (rep_up hG hba) (row_bytes1 w3 7 (by omega) _ rfl)).mono ?_
  rintro e w4 ⟨he, hb⟩
  rw [X3.out] at he
  obtain ⟨cv, rfl, hcn⟩ := he
  rw [errV_zero]
  replace hb := below_trans hba hb
  replace hG := rep_up hG hb
  replace hB := below_trans hB hb
  replace ha := rep_up ha hb
  replace hbn := rep_up hbn hb
  replace hcn := NumN.old hcn
  clear hba hb
  obtain ⟨cn, hcv⟩ : ∃ cn, cn = encN x [7] := ⟨_, rfl⟩
  rw [← hcv] at hcn X5 enc
  clear hcv X3
  go_wp2_with fail
  refine (gdec_calls ok.out hG (num_raw hcn) (bits_small (Nat.lt_trans enc.out.1.lt (lim_up ok.out.lim (show 32 ≤ 100 by omega))))).mono ?_
  rintro e w5 ⟨he, hb⟩
  unfold DecPost at he
  rw [elB_iff.2 enc.out.1, if_neg (by simp), X5.out, es.out, if_neg (by decide)] at he
  obtain ⟨dv, rfl, hdv⟩ := he
  replace hG := rep_up hG hb
  replace hB := below_trans hB hb
  replace ha := rep_up ha hb
  replace hbn := rep_up hbn hb
  replace hdv := ByteS.old hdv
  clear hb
  go_wp2_with fail
  refine (genc_calls ok.out hG (sl_nil (Rep.num .u8 256) (fun _ => True) w5)).mono ?_
  rintro e w6 ⟨he, hb⟩
  rw [X4.out] at he
  obtain rfl : e = .returned (.tuple #[.slice none 0 0, .iface 38 (.int .i64 1)]) := he
  replace hG := rep_up hG hb
  replace hB := below_trans hB hb
  replace ha := rep_up ha hb
  replace hbn := rep_up hbn hb
  replace hdv := rep_up hdv hb
  clear hb
  go_wp2_with fail
  refine (gsize_calls hG).mono ?_
  rintro e w7 ⟨rfl, rfl⟩
  have hs1 : Hid ((x.2.2.2 : Int) = 1) := by show _ = _; rw [es.out]; rfl
  rw [hs1.out]
  have hba := below_bs (w := w6) (.cells #[.int .u64 4] 65)
  go_wp2_with fail
  refine (gis_calls (rep_up hG hba) (lit_raw w6 4 (by decide) _ rfl) (bits_small (lit_lim (by omega) 100 (by omega)))).mono ?_
  rintro e w7 ⟨rfl, hb⟩
  rw [E4.out]
  replace hb := below_trans hba hb
  replace hG := rep_up hG hb
  replace hB := below_trans hB hb
  replace ha := rep_up ha hb
  replace hbn := rep_up hbn hb
  replace hdv := rep_up hdv hb
  clear hb hba
  have hba := below_bs (w := w7) (.cells #[.int .u64 2] 65)
  go_wp2_with fail
  refine (gis_calls (rep_up hG hba) (lit_raw w7 2 (by decide) _ rfl) (bits_small (lit_lim (by omega) 100 (by omega)))).mono ?_
  rintro e w8 ⟨rfl, hb⟩
  rw [E2.out]
  replace hb := below_trans hba hb
  replace hG := rep_up hG hb
  replace hB := below_trans hB hb
  replace ha := rep_up ha hb
  replace hbn := rep_up hbn hb
  replace hdv := rep_up hdv hb
  clear hb hba
  go_wp2_with fail
  refine (gis_calls hG (raw_nil (fun _ => True) w8) (bits_small (lit_lim (by omega) 100 (by omega)))).mono ?_
  rintro e w9 ⟨rfl, hb⟩
  rw [E0.out]
  replace hB := below_trans hB hb
  replace ha := rep_up ha hb
  replace hbn := rep_up hbn hb
  replace hdv := rep_up hdv hb
  clear hb hG
  go_wp2_with fail
  refine (one4_calls ha).mono ?_
  rintro e w10 ⟨rfl, rfl⟩
  go_wp2_with fail
  refine (one4_calls hbn).mono ?_
  rintro e w10 ⟨rfl, rfl⟩
  have hstr := str_run hdv
  rw [show bstr (Pl.beL 1 7) = ⟨#[7]⟩ by decide] at hstr
  clear ha hbn hdv
  go_wp2_with fail
  go_ret
  exact ⟨rfl, hB⟩

end Go.Proofs.Ytphbacggmhjmgaa
