/- The statements on mont, fifth part: the walk of MontStays. -/
import Derived.Test.YtigdeaeoejpnlaaMontLawD
namespace Go.Proofs.Ytigdeaeoejpnlaa
open Go.RowKit

/-- Of the blocks that were there, those that F doesn't name are as they were. -/
structure Turn (F : Nat → Prop) (w w' : World) : Prop where
  os : w'.os = w.os
  tape : w'.tape = w.tape
  output : w'.output = w.output
  size : w.heap.size ≤ w'.heap.size
  block : ∀ b, b < w.heap.size → ¬ F b → w'.heap[b]? = w.heap[b]?
theorem Turn.refl (F : Nat → Prop) (w : World) : Turn F w w := ⟨rfl, rfl, rfl, Nat.le_refl _, fun _ _ _ => rfl⟩
theorem Turn.set {F : Nat → Prop} {w w' : World} (k : Turn F w w') {a : Addr} (ha : F a.block) (v : Value) : Turn F w (w'.setCell a v) :=
  ⟨k.os, k.tape, k.output, by simpa using k.size, fun b hb hn => by rw [heap_setCell_other w' a b v (fun e => hn (e ▸ ha))]; exact k.block b hb hn⟩
theorem Turn.rep {F : Nat → Prop} {w w' : World} (k : Turn F w w') {α : Type} (r : Rep α) {S : Nat → Prop} {x : α} {cs : List Value} (h : r.rep S w x cs) (hS : ∀ b, S b → ¬ F b) : r.rep S w' x cs :=
  r.mono (r.live h) (fun _ hb => hb.1) (fun b hb => k.block b hb.2 (hS b hb.1))
theorem Turn.below {F : Nat → Prop} {B : Nat} {a b c : World} (h : Below B a b) (k : Turn F b c) (hB : B ≤ b.heap.size) (hF : ∀ i, F i → B ≤ i) : Below B a c :=
  ⟨k.os.trans h.os, k.tape.trans h.tape, k.output.trans h.output, Nat.le_trans h.size k.size, fun i hi => (k.block i (by omega) (fun hf => by have := hF i hf; omega)).trans (h.block i hi)⟩

theorem At.setCell {w : World} {b o : Nat} {ys : List Value} (h : At w b o ys) (i : Nat) (hi : i < ys.length) (v : Value) : At (w.setCell ⟨b, o + i, none⟩ v) b o (ys.set i v) := by
  intro j hj
  rw [List.length_set] at hj
  refine ⟨?_, by rw [World.frozen?_setCell]; exact (h j hj).2⟩
  by_cases e : i = j
  · subst e
    rw [World.cell?_setCell_same _ _ _ (h i hi).1, List.getElem_set_self]
  · rw [World.cell?_setCell_other _ _ _ _ (by intro h; simp only [Addr.mk.injEq] at h; omega), List.getElem_set_ne e]
    exact (h j hj).1
theorem sl_setNum {k : IntKind} {B : Nat} {S : Nat → Prop} {w : World} {ds : List Nat} {b o n cap : Nat} (h : (Rep.num k B).sl.rep S w ds [.slice (some ⟨b, o, none⟩) n cap]) (i : Nat) (hi : i < ds.length) (d : Nat) (hd : d < B) :
    (Rep.num k B).sl.rep S (w.setCell ⟨b, o + i, none⟩ (.int k (d : Int))) (ds.set i d) [.slice (some ⟨b, o, none⟩) n cap] := by
  obtain ⟨A, cap', ys, e, h1, h2, h3, h4⟩ := h
  simp only [List.cons.injEq, Value.slice.injEq, and_true] at e
  obtain ⟨rfl, rfl, rfl⟩ := e
  obtain ⟨rfl, hdig⟩ := repL_num.1 h4
  refine ⟨_, _, nums k (ds.set i d), by rw [List.length_set], by simpa using h1, by simpa using h2, fun hne => ?_, repL_num.2 ⟨rfl, hdig.set i hd⟩⟩
  obtain ⟨b', o', e, hS, hb, ha⟩ := h3 (by intro e; subst e; simp at hi)
  simp only [Option.some.injEq, Addr.mk.injEq, and_true] at e
  obtain ⟨rfl, rfl⟩ := e
  refine ⟨_, _, rfl, hS, by simpa using hb, ?_⟩
  have := ha.setCell i (by simpa using hi) (.int k (d : Int))
  rwa [show ((ds.map fun n : Nat => Value.int k (n : Int)).set i (.int k (d : Int))) = nums k (ds.set i d) from nums_set k ds i d] at this

section
variable {P : Program} {ops : Array Oper} {rest : List Oper} {o : Oper} {a : Act} {Q : Exit → Act → World → Prop} {w : World}
/-- 'append(T{}, u...)': a copy of numbers -/
theorem wpList_fresh {k : IntKind} {B : Nat} (hgd : o.guard = none) (s x : Operand) (t e : TypeId) (bytes : Nat) (ho : o.op = .call { callee := .builtin .append, args := #[s, x], argTypes := #[t, t] }) (ht : P.underlying t = some (.slice e))
    (hinfo : (P.info? e).map (fun i => (i.zero, i.size, i.bytes)) = some (some (.int k 0), 1, bytes)) (hby : 0 < bytes) (hby2 : (Rep.num k B).by_ = bytes) (W : World) (hw : w = W.alloc (.cells #[] e)) (u : Value) (xs : List Nat)
    (hs : a.eval s = .slice (some ⟨W.heap.size, 0, none⟩) 0 0) (hx : a.eval x = u) {S : Nat → Prop} (hu : (Rep.num k B).sl.rep S W xs [u])
    (h : ∀ v' w', (Rep.num k B).sl.rep (Fresh W w') w' xs [v'] → Below W.heap.size W w' → wpList P ops Q rest (a.put o.dst v') w') : wpList P ops Q (o :: rest) a w := by
  subst hw
  have hb := below_alloc (Below.refl W.heap.size W) (.cells #[] e)
  have hl := sl_bytes hu
  refine wpList_append_rep (r := Rep.num k B) hgd s x t e (.int k 0) bytes ho ht hinfo rfl (by show 0 < 1; omega) hby W.heap.size _ [] (S := fun b => b < W.heap.size) u xs hs hx ?_ ?_ ?_ ?_ ?_ ?_
  · exact Own.lit _ _ _ _ _ [] #[] (Nat.le_refl _) rfl 0 rfl (by omega)
  · exact (Rep.num k B).sl.mono ((Rep.num k B).sl.old hu) (fun _ hb => hb) (Same.of_below hb)
  · rw [← hby2]; simpa using hl
  · exact hb.size
  · intro b hlt
    exact ⟨Nat.lt_of_lt_of_le hlt hb.size, ne_own (by omega)⟩
  · intro v' w1 hown hg _
    have hB1 := hb.grown hg hb.size (fun k hk => own_ge hk (Nat.le_refl _))
    refine h v' w1 ?_ hB1
    exact (own_free (S' := Fresh W w1) hown).slFresh (by simpa using hl)
end

theorem sl_frozen {k : IntKind} {B : Nat} {S : Nat → Prop} {w : World} {ds : List Nat} {b o n cap : Nat} (h : (Rep.num k B).sl.rep S w ds [.slice (some ⟨b, o, none⟩) n cap]) (i : Nat) (hi : i < ds.length) : w.frozen? ⟨b, o + i, none⟩ = false := by
  obtain ⟨b', o', ys, e, hb, ha, hr⟩ := sl_cells h (by omega)
  simp only [Option.some.injEq, Addr.mk.injEq, and_true] at e
  obtain ⟨rfl, rfl⟩ := e
  obtain ⟨rfl, _⟩ := repL_num.1 hr
  exact (ha i (by simpa using hi)).2
theorem exp_64 {n : Nat} (h : n < B64 ^ 20) : n < B64 ^ 64 := lim_le h (by omega)
theorem rsame_refl {w : World} {S T : Nat → Prop} {xs : List Nat} {va vb : Value} (ha : NatS.rep S w xs [va]) (hb : NatS.rep T w xs [vb]) :
    Calls Try.prog 29 #[va, vb] w fun e w' => e = .returned (.bool true) ∧ Still w w' :=
  (rsame_calls ha hb).mono fun e w' ⟨h, hs⟩ => ⟨by rw [h]; simp, hs⟩

set_option maxHeartbeats 16000000 in
set_option maxRecDepth 100000 in
theorem stays_calls (w : World) {xm xa xb : List Nat} {vm va vb : Value} (hm : NatS.rep (· < w.heap.size) w xm [vm]) (ha : NatS.rep (· < w.heap.size) w xa [va]) (hb : NatS.rep (· < w.heap.size) w xb [vb]) :
    Calls Try.prog 10 #[vm, va, vb] w fun e w' => e = .returned (.bool true) ∧ Below w.heap.size w w' := by
  obtain ⟨Am, cm, rfl, hcm, _⟩ := sl_open hm
  obtain ⟨Aa, ca, rfl, hca, _⟩ := sl_open ha
  obtain ⟨Ab, cb, rfl, hcb, _⟩ := sl_open hb
  obtain ⟨m, em⟩ : ∃ m, m = Pl.val B64 xm := ⟨_, rfl⟩
  obtain ⟨a, ea⟩ : ∃ a, a = Pl.val B64 xa := ⟨_, rfl⟩
  obtain ⟨b, eb⟩ : ∃ b, b = Pl.val B64 xb := ⟨_, rfl⟩
  have lm := hid (fun hl : xm.length ≤ 20 => raw_lt hm em hl)
  have la := hid (fun hl : xa.length ≤ 20 => raw_lt ha ea hl)
  have lb := hid (fun hl : xb.length ≤ 20 => raw_lt hb eb hl)
  have Em := hid em
  have Ea := hid ea
  have Eb := hid eb
  clear em ea eb
  go_enter Try.func10, Try.ntmps10
  go_wp2_with fail
  refine (mup_calls w).mono ?_
  rintro e w1 ⟨rfl, hB1⟩
  by_cases gm : 20 < xm.length
  · go_wp2_with fail
    go_ret
    exact ⟨rfl, hB1⟩
  by_cases ga : 20 < xa.length
  · go_wp2_with fail
    go_ret
    exact ⟨rfl, hB1⟩
  by_cases gb : 20 < xb.length
  · go_wp2_with fail
    go_ret
    exact ⟨rfl, hB1⟩
  replace lm := hid (lm.out (by omega))
  replace la := hid (la.out (by omega))
  replace lb := hid (lb.out (by omega))
  have hm1 := NatS.keep hm (fun _ h => h) hB1
  have n1 := hB1.size
  go_wp2_with (at_builtin; refine wpList_fresh (k := .u64) (B := B64) rfl _ _ 47 27 8 rfl Try.underlying47 info27 (by omega) rfl w1 rfl _ xm rfl rfl hm1 ?_)
  intro ov w2 hown hB2
  clear hm1
  have n2 := hB2.size
  have hB12 := below_trans hB1 hB2
  obtain ⟨oA, oc, rfl, hoc, hom⟩ := sl_open hown
  have hoR : RawN.rep (Fresh w1 w2) w2 m [.slice oA xm.length oc] := ⟨xm, hown, Em.out.symm⟩
  go_wp2_with fail
  refine (mnew_calls hoR).mono ?_
  rintro e w3 ⟨he, hB3⟩
  have n3 := hB3.size
  have hB13 := below_trans hB12 hB3
  have hown3 := (Rep.num .u64 B64).sl.below hown hB3
  clear hown hoR hB2
  unfold NewPost at he
  rw [if_neg (by have := lm.out; have := lim_le (l := 32) lm.out (by omega); omega)] at he
  by_cases hbad : m % 2 = 0 ∨ m < 3
  · rw [if_pos hbad, show errV 5 = .iface 36 (.int .i64 5) from rfl] at he
    subst he
    clear hbad
    go_wp2_with fail
    go_loopw [11] (fun iv wr => ∃ (i : Nat) (ds : List Nat), iv = .int .i64 (i : Int) ∧ i ≤ xm.length ∧ ds.length = xm.length ∧ (Rep.num .u64 B64).sl.rep (Fresh w1 w2) wr ds [.slice oA xm.length oc] ∧ Turn (Fresh w1 w2) w3 wr) (fun iv _ => xm.length - (intOf iv).toNat)
    case atStart => exact ⟨0, _, rfl, by omega, rfl, hown3, Turn.refl _ _⟩
    case round =>
      clear hown3
      obtain ⟨i, ds, rfl, hi, hdl, hds, htn⟩ := hrel
      by_cases hlt : i < xm.length
      · have hdi : i < ds.length := by omega
        obtain ⟨bb, oo, rfl, hSb, hcell, hbd⟩ := num_at hds i hdi
        have hfr := sl_frozen hds i hdi
        obtain ⟨x, hx⟩ : ∃ x, x = ds[i] := ⟨_, rfl⟩
        rw [← hx] at hcell hbd
        obtain ⟨D, hD⟩ : ∃ D, D = (x + 1) % B64 := ⟨_, rfl⟩
        have q1 : IntKind.u64.wrap ((x : Int) + 1) = (D : Int) := by rw [hD]; exact u64_mod (by push_cast; rfl)
        have hDb : D < B64 := by rw [hD]; exact Nat.mod_lt _ B64_pos
        have hds2 := sl_setNum hds i hdi D hDb
        have htn2 := htn.set (a := ⟨bb, oo + i, none⟩) hSb (.int .u64 (D : Int))
        have Hdl := hid hdl
        clear hx hD hds htn hdl
        go_wp2_with fail
        go_roundw
        case rel => exact ⟨i + 1, _, by go_num, by omega, by rw [List.length_set]; exact Hdl.out, hds2, htn2⟩
        case measure => simp [intOf] <;> omega
      · clear hds hdl
        obtain ⟨w4, rfl⟩ : ∃ w4 : World, w4 = wr := ⟨_, rfl⟩
        have n4 := htn.size
        have hB4 := Turn.below hB13 htn (by omega) (fun i hi => by have := hi.1; omega)
        clear htn hi
        have ha4 := NatS.keep ha (fun _ h => h) hB4
        have hb4 := NatS.keep hb (fun _ h => h) hB4
        go_wp2_with (at_builtin; refine wpList_fresh (k := .u64) (B := B64) rfl _ _ 47 27 8 rfl Try.underlying47 info27 (by omega) rfl w4 rfl _ xa rfl rfl ha4 ?_)
        intro xv w5 hx5 hb45
        have n5 := hb45.size
        obtain ⟨xA, xc, rfl, hxc, hxm⟩ := sl_open hx5
        have hB5 := below_trans hB4 hb45
        have hb5 := (Rep.num .u64 B64).sl.below hb4 hb45
        clear ha4 hb4
        go_wp2_with (at_builtin; refine wpList_fresh (k := .u64) (B := B64) rfl _ _ 47 27 8 rfl Try.underlying47 info27 (by omega) rfl w5 rfl _ xb rfl rfl hb5 ?_)
        intro yv w6 hy6 hb56
        have n6 := hb56.size
        obtain ⟨yA, yc, rfl, hyc, hym⟩ := sl_open hy6
        have hB6 := below_trans hB5 hb56
        clear hb5
        go_wp2_with fail
        go_ret
        exact ⟨rfl, hB6⟩
  · rw [if_neg hbad] at he
    obtain ⟨rv, rfl, hM3⟩ := he
    have hgood : Good m := ⟨lim_le lm.out (by omega), by omega, by omega⟩
    obtain ⟨g, rfl⟩ := mod_ptr hM3
    clear hbad
    go_wp2_with fail
    go_loopw [11] (fun iv wr => ∃ (i : Nat) (ds : List Nat), iv = .int .i64 (i : Int) ∧ i ≤ xm.length ∧ ds.length = xm.length ∧ (Rep.num .u64 B64).sl.rep (Fresh w1 w2) wr ds [.slice oA xm.length oc] ∧ Turn (Fresh w1 w2) w3 wr) (fun iv _ => xm.length - (intOf iv).toNat)
    case atStart => exact ⟨0, _, rfl, by omega, rfl, hown3, Turn.refl _ _⟩
    case round =>
      clear hown3
      obtain ⟨i, ds, rfl, hi, hdl, hds, htn⟩ := hrel
      by_cases hlt : i < xm.length
      · have hdi : i < ds.length := by omega
        obtain ⟨bb, oo, rfl, hSb, hcell, hbd⟩ := num_at hds i hdi
        have hfr := sl_frozen hds i hdi
        obtain ⟨x, hx⟩ : ∃ x, x = ds[i] := ⟨_, rfl⟩
        rw [← hx] at hcell hbd
        obtain ⟨D, hD⟩ : ∃ D, D = (x + 1) % B64 := ⟨_, rfl⟩
        have q1 : IntKind.u64.wrap ((x : Int) + 1) = (D : Int) := by rw [hD]; exact u64_mod (by push_cast; rfl)
        have hDb : D < B64 := by rw [hD]; exact Nat.mod_lt _ B64_pos
        have hds2 := sl_setNum hds i hdi D hDb
        have htn2 := htn.set (a := ⟨bb, oo + i, none⟩) hSb (.int .u64 (D : Int))
        have Hdl := hid hdl
        clear hx hD hds htn hdl
        go_wp2_with fail
        go_roundw
        case rel => exact ⟨i + 1, _, by go_num, by omega, by rw [List.length_set]; exact Hdl.out, hds2, htn2⟩
        case measure => simp [intOf] <;> omega
      · clear hds hdl
        obtain ⟨w4, rfl⟩ : ∃ w4 : World, w4 = wr := ⟨_, rfl⟩
        have n4 := htn.size
        have hB4 := Turn.below hB13 htn (by omega) (fun i hi => by have := hi.1; omega)
        have hM4 := htn.rep ModP hM3 (fun i hi hf => by have := hi.1; have := hf.2; omega)
        clear hM3
        clear htn hi
        have ha4 := NatS.keep ha (fun _ h => h) hB4
        have hb4 := NatS.keep hb (fun _ h => h) hB4
        go_wp2_with (at_builtin; refine wpList_fresh (k := .u64) (B := B64) rfl _ _ 47 27 8 rfl Try.underlying47 info27 (by omega) rfl w4 rfl _ xa rfl rfl ha4 ?_)
        intro xv w5 hx5 hb45
        have n5 := hb45.size
        obtain ⟨xA, xc, rfl, hxc, hxm⟩ := sl_open hx5
        have hB5 := below_trans hB4 hb45
        have hb5 := (Rep.num .u64 B64).sl.below hb4 hb45
        clear ha4 hb4
        go_wp2_with (at_builtin; refine wpList_fresh (k := .u64) (B := B64) rfl _ _ 47 27 8 rfl Try.underlying47 info27 (by omega) rfl w5 rfl _ xb rfl rfl hb5 ?_)
        intro yv w6 hy6 hb56
        have n6 := hb56.size
        obtain ⟨yA, yc, rfl, hyc, hym⟩ := sl_open hy6
        have hB6 := below_trans hB5 hb56
        clear hb5
        have hx6 := (Rep.num .u64 B64).sl.below hx5 hb56
        have hM6 := ModP.below hM4 (below_trans hb45 hb56)
        clear hx5 hM4
        have E1 := hid (modMulE_ok (m := m) (exp_64 la.out) (exp_64 lb.out))
        have E2 := hid (modAddE_ok (m := m) (exp_64 la.out) (exp_64 lb.out))
        have E3 := hid (modExpE_ok (m := m) (exp_64 la.out) (exp_64 lb.out))
        have hx6n : RawN.rep (fun _ => True) w6 a [.slice xA xa.length xc] := ⟨xa, NatS.mono hx6 (fun _ _ => trivial) (Same.refl _ _), Ea.out.symm⟩
        have hy6n : RawN.rep (fun _ => True) w6 b [.slice yA xb.length yc] := ⟨xb, NatS.mono hy6 (fun _ _ => trivial) (Same.refl _ _), Eb.out.symm⟩
        go_wp2_with fail
        refine (mmul_calls hM6 hx6n hy6n).mono ?_
        rintro e w7 ⟨he, hb67⟩
        rw [E1.out] at he
        obtain ⟨pv, rfl, hp7⟩ := he
        rw [errV_zero]
        have n7 := hb67.size
        go_wp2_with fail
        refine (madd_calls (ModP.below hM6 hb67) (RawN.below hx6n hb67) (RawN.below hy6n hb67)).mono ?_
        rintro e w8 ⟨he, hb78⟩
        rw [E2.out] at he
        obtain ⟨sv, rfl, hs8⟩ := he
        rw [errV_zero]
        have n8 := hb78.size
        have hb68 := below_trans hb67 hb78
        go_wp2_with fail
        refine (mexp_calls (ModP.below hM6 hb68) (RawN.below hx6n hb68) (RawN.below hy6n hb68)).mono ?_
        rintro e w9 ⟨he, hb89⟩
        rw [E3.out] at he
        obtain ⟨kv, rfl, hk9⟩ := he
        rw [errV_zero]
        have n9 := hb89.size
        have hb69 := below_trans hb68 hb89
        have hM9 := ModP.below hM6 hb69
        have hp9 := NumN.below hp7 (below_trans hb78 hb89)
        have hs9 := NumN.below hs8 hb89
        have hx9 := (Rep.num .u64 B64).sl.below hx6 hb69
        have hy9 := (Rep.num .u64 B64).sl.below hy6 hb69
        have hB9 := below_trans hB6 hb69
        clear hx6n hy6n hp7 hs8 hx6 hy6 hM6
        obtain ⟨g', MA, mcap, inv, tv, ms, hge, hgS, c0, c1, c2, hms, hinv, htv, hcap, hcmm, hpos, hok⟩ := mod_open hM9
        injection hge with hge
        injection hge with hge
        injection hge with hge _
        subst hge
        have hmN := mod_num hms hok
        clear hms htv hinv c1 c2
        go_wp2_with fail
        refine (modulus_calls hmN).mono ?_
        rintro e w10 ⟨⟨mv, rfl, hm10⟩, hb910⟩
        have n10 := hb910.size
        obtain ⟨xs, hxs10, hxsc, hxsv⟩ := hm10
        obtain ⟨mA, mc, rfl, hmc, hmm⟩ := sl_open hxs10
        have hM10 := ModP.below hM9 hb910
        have hp10 := NumN.below hp9 hb910
        have hs10 := NumN.below hs9 hb910
        have hk10 := NumN.below hk9 hb910
        have hx10 := (Rep.num .u64 B64).sl.below hx9 hb910
        have hy10 := (Rep.num .u64 B64).sl.below hy9 hb910
        have hB10 := below_trans hB9 hb910
        have ha10 := NatS.keep ha (fun _ h => h) hB10
        have hb10 := NatS.keep hb (fun _ h => h) hB10
        clear hM9 hp9 hs9 hk9 hx9 hy9 hmN hok c0 hgS hxsc hxsv
        go_wp2_with fail
        refine (rsame_refl hx10 ha10).mono ?_
        rintro e w11 ⟨rfl, hst11⟩
        go_wp2_with fail
        refine (rsame_refl (hst11.rep _ hy10) (hst11.rep _ hb10)).mono ?_
        rintro e w12 ⟨rfl, hst12'⟩
        have hst12 := hst11.trans hst12'
        have n12 := hst12.below.size
        have hM12 := hst12.rep _ hM10
        have hp12 := hst12.rep _ hp10
        have hs12 := hst12.rep _ hs10
        have hk12 := hst12.rep _ hk10
        have hx12 := hst12.rep _ hx10
        have hmo12 := hst12.rep _ hxs10
        have hB12' := still_below hB10 hst12
        have ha12 : RawN.rep (fun b => b < w12.heap.size) w12 a [.slice Aa xa.length ca] := ⟨xa, NatS.old (hst12.rep _ ha10), Ea.out.symm⟩
        have hb12 : RawN.rep (fun b => b < w12.heap.size) w12 b [.slice Ab xb.length cb] := ⟨xb, NatS.old (hst12.rep _ hb10), Eb.out.symm⟩
        clear hM10 hp10 hs10 hk10 hx10 hy10 hxs10 hst12' ha10 hb10
        go_wp2_with fail
        refine (mmul_calls hM12 ha12 hb12).mono ?_
        rintro e w13 ⟨he, hb1213⟩
        rw [E1.out] at he
        obtain ⟨qv, rfl, hq13⟩ := he
        rw [errV_zero]
        have n13 := hb1213.size
        go_wp2_with fail
        refine (madd_calls (ModP.below hM12 hb1213) (RawN.below ha12 hb1213) (RawN.below hb12 hb1213)).mono ?_
        rintro e w14 ⟨he, hb1314⟩
        rw [E2.out] at he
        obtain ⟨tv2, rfl, ht14⟩ := he
        rw [errV_zero]
        have n14 := hb1314.size
        have hb1214 := below_trans hb1213 hb1314
        have hM14 := ModP.below hM12 hb1214
        have hp14 := NumN.below hp12 hb1214
        have hs14 := NumN.below hs12 hb1214
        have hk14 := NumN.below hk12 hb1214
        have hx14 := (Rep.num .u64 B64).sl.below hx12 hb1214
        have hmo14 := (Rep.num .u64 B64).sl.below hmo12 hb1214
        have hq14 := NumN.below hq13 hb1314
        have hB14 := below_trans hB12' hb1214
        clear hM12 hp12 hs12 hk12 hx12 hmo12 hq13 ha12 hb12
        go_wp2_with fail
        go_loopw [27] (fun iv wr => ∃ (i : Nat) (ds : List Nat), iv = .int .i64 (i : Int) ∧ i ≤ xa.length ∧ ds.length = xa.length ∧ (Rep.num .u64 B64).sl.rep (Fresh w4 w5) wr ds [.slice xA xa.length xc] ∧ Turn (Fresh w4 w5) w14 wr) (fun iv _ => xa.length - (intOf iv).toNat)
        case atStart => exact ⟨0, _, rfl, by omega, rfl, hx14, Turn.refl _ _⟩
        case round =>
          clear hx14
          obtain ⟨i, ds, rfl, hi, hdl, hds, htn⟩ := hrel
          by_cases hlt : i < xa.length
          · have hdi : i < ds.length := by omega
            obtain ⟨bb, oo, rfl, hSb, hcell, hbd⟩ := num_at hds i hdi
            have hfr := sl_frozen hds i hdi
            obtain ⟨x, hx⟩ : ∃ x, x = ds[i] := ⟨_, rfl⟩
            rw [← hx] at hcell hbd
            obtain ⟨D, hD⟩ : ∃ D, D = (x + 1) % B64 := ⟨_, rfl⟩
            have q1 : IntKind.u64.wrap ((x : Int) + 1) = (D : Int) := by rw [hD]; exact u64_mod (by push_cast; rfl)
            have hDb : D < B64 := by rw [hD]; exact Nat.mod_lt _ B64_pos
            have hds2 := sl_setNum hds i hdi D hDb
            have htn2 := htn.set (a := ⟨bb, oo + i, none⟩) hSb (.int .u64 (D : Int))
            have Hdl := hid hdl
            clear hx hD hds htn hdl
            go_wp2_with fail
            go_roundw
            case rel => exact ⟨i + 1, _, by go_num, by omega, by rw [List.length_set]; exact Hdl.out, hds2, htn2⟩
            case measure => simp [intOf] <;> omega
          · clear hds hdl
            obtain ⟨w15, rfl⟩ : ∃ w15 : World, w15 = wr := ⟨_, rfl⟩
            have n15 := htn.size
            have hB15 := Turn.below hB14 htn (by omega) (fun i hi => by have := hi.1; omega)
            have hM15 := htn.rep ModP hM14 (fun i hi hf => by have := hi.2; have := hf.1; omega)
            have hp15 := htn.rep NumN hp14 (fun i hi hf => by have := hi.1; have := hf.2; omega)
            have hs15 := htn.rep NumN hs14 (fun i hi hf => by have := hi.1; have := hf.2; omega)
            have hk15 := htn.rep NumN hk14 (fun i hi hf => by have := hi.1; have := hf.2; omega)
            have hq15 := htn.rep NumN hq14 (fun i hi hf => by have := hi.1; have := hf.2; omega)
            have ht15 := htn.rep NumN ht14 (fun i hi hf => by have := hi.1; have := hf.2; omega)
            have hmo15 := htn.rep (Rep.num .u64 B64).sl hmo14 (fun i hi hf => by have := hi.1; have := hf.2; omega)
            clear htn hi hM14 hp14 hs14 hk14 hq14 ht14 hmo14
            go_wp2_with fail
            go_loopw [28] (fun iv wr => ∃ (i : Nat) (ds : List Nat), iv = .int .i64 (i : Int) ∧ i ≤ xs.length ∧ ds.length = xs.length ∧ (Rep.num .u64 B64).sl.rep (Fresh w9 w10) wr ds [.slice mA xs.length mc] ∧ Turn (Fresh w9 w10) w15 wr) (fun iv _ => xs.length - (intOf iv).toNat)
            case atStart => exact ⟨0, _, rfl, by omega, rfl, hmo15, Turn.refl _ _⟩
            case round =>
              clear hmo15
              obtain ⟨i, ds, rfl, hi, hdl, hds, htn⟩ := hrel
              by_cases hlt : i < xs.length
              · have hdi : i < ds.length := by omega
                obtain ⟨bb, oo, rfl, hSb, hcell, hbd⟩ := num_at hds i hdi
                have hfr := sl_frozen hds i hdi
                obtain ⟨x, hx⟩ : ∃ x, x = ds[i] := ⟨_, rfl⟩
                rw [← hx] at hcell hbd
                obtain ⟨D, hD⟩ : ∃ D, D = (x + 1) % B64 := ⟨_, rfl⟩
                have q1 : IntKind.u64.wrap ((x : Int) + 1) = (D : Int) := by rw [hD]; exact u64_mod (by push_cast; rfl)
                have hDb : D < B64 := by rw [hD]; exact Nat.mod_lt _ B64_pos
                have hds2 := sl_setNum hds i hdi D hDb
                have htn2 := htn.set (a := ⟨bb, oo + i, none⟩) hSb (.int .u64 (D : Int))
                have Hdl := hid hdl
                clear hx hD hds htn hdl
                go_wp2_with fail
                go_roundw
                case rel => exact ⟨i + 1, _, by go_num, by omega, by rw [List.length_set]; exact Hdl.out, hds2, htn2⟩
                case measure => simp [intOf] <;> omega
              · clear hds hdl
                obtain ⟨w16, rfl⟩ : ∃ w16 : World, w16 = wr := ⟨_, rfl⟩
                have n16 := htn.size
                have hB16 := Turn.below hB15 htn (by omega) (fun i hi => by have := hi.1; omega)
                have hM16 := htn.rep ModP hM15 (fun i hi hf => by have := hi.2; have := hf.1; omega)
                have hp16 := htn.rep NumN hp15 (fun i hi hf => by have := hi.2; have := hf.1; omega)
                have hs16 := htn.rep NumN hs15 (fun i hi hf => by have := hi.2; have := hf.1; omega)
                have hk16 := htn.rep NumN hk15 (fun i hi hf => by have := hi.2; have := hf.1; omega)
                have hq16 := htn.rep NumN hq15 (fun i hi hf => by have := hi.1; have := hf.2; omega)
                have ht16 := htn.rep NumN ht15 (fun i hi hf => by have := hi.1; have := hf.2; omega)
                clear htn hi hM15 hp15 hs15 hk15 hq15 ht15
                go_wp2_with fail
                refine (same_num hp16 hq16).mono ?_
                rintro e w17 ⟨rfl, hst17⟩
                go_wp2_with fail
                refine (same_num (hst17.rep _ hs16) (hst17.rep _ ht16)).mono ?_
                rintro e w18 ⟨rfl, hst18'⟩
                have hst18 := hst17.trans hst18'
                have hM18 := hst18.rep _ hM16
                have hk18 := hst18.rep _ hk16
                have hB18 := still_below hB16 hst18
                have ha18 : RawN.rep (fun b => b < w18.heap.size) w18 a [.slice Aa xa.length ca] := ⟨xa, NatS.old (NatS.keep ha (fun _ h => h) hB18), Ea.out.symm⟩
                have hb18 : RawN.rep (fun b => b < w18.heap.size) w18 b [.slice Ab xb.length cb] := ⟨xb, NatS.old (NatS.keep hb (fun _ h => h) hB18), Eb.out.symm⟩
                clear hM16 hp16 hs16 hk16 hq16 ht16 hst17 hst18'
                go_wp2_with fail
                refine (mexp_calls hM18 ha18 hb18).mono ?_
                rintro e w19 ⟨he, hb1819⟩
                rw [E3.out] at he
                obtain ⟨lv, rfl, hl19⟩ := he
                rw [errV_zero]
                have hB19 := below_trans hB18 hb1819
                have hM19 := ModP.old (ModP.below hM18 hb1819)
                go_wp2_with fail
                refine (same_num (NumN.below hk18 hb1819) hl19).mono ?_
                rintro e w20 ⟨rfl, hst20⟩
                have hM20 := hst20.rep _ hM19
                have hB20 := still_below hB19 hst20
                obtain ⟨g', MA2, mcap2, inv2, tv3, ms2, hge, hgS, c0, c1, c2, hms, hinv, htv, hcap2, hcmm2, hpos2, hok⟩ := mod_open hM20
                injection hge with hge
                injection hge with hge
                injection hge with hge _
                subst hge
                have hmN := mod_num hms hok
                clear hms htv hinv c1 c2 hM18 hM19 hM20
                go_wp2_with fail
                refine (modulus_calls hmN).mono ?_
                rintro e w21 ⟨⟨mv, rfl, hm21⟩, hb2021⟩
                have hB21 := below_trans hB20 hb2021
                have hm0 : RawN.rep (fun b => b < w.heap.size) w21 m [.slice Am xm.length cm] := ⟨xm, NatS.keep hm (fun _ h => h) hB21, Em.out.symm⟩
                go_wp2_with fail
                refine (norm_calls hm0).mono ?_
                rintro e w22 ⟨⟨nv, rfl, hn22⟩, hb2122⟩
                have hB22 := below_trans hB21 hb2122
                go_wp2_with fail
                refine (same_num (NumN.below hm21 hb2122) hn22).mono ?_
                rintro e w23 ⟨rfl, hst23⟩
                have hB23 := still_below hB22 hst23
                go_wp2_with fail
                go_ret
                exact ⟨rfl, hB23⟩

end Go.Proofs.Ytigdeaeoejpnlaa
