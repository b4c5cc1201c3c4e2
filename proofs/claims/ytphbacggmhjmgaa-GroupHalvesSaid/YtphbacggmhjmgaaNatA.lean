/- The layer nat, first part: what its smaller functions answer. -/
import Derived.Test.YtphbacggmhjmgaaBits
import Derived.Deep.QuietTactic
namespace Go.Proofs.Ytphbacggmhjmgaa
open Go.RowKit

/-- digits as they lie -/
abbrev NatS : Rep (List Nat) := (Rep.num .u64 B64).sl
/-- a number, however it is told -/
def RawN : Rep Nat := NatS.ex fun n xs => Pl.val B64 xs = n
/-- a number without noughts at its end -/
def NumN : Rep Nat := NatS.ex fun n xs => Pl.Canon xs ∧ Pl.val B64 xs = n

theorem num_raw {S : Nat → Prop} {w : World} {n : Nat} {cs : List Value} (h : NumN.rep S w n cs) : RawN.rep S w n cs := by
  obtain ⟨xs, h1, _, h2⟩ := h; exact ⟨xs, h1, h2⟩
theorem raw_of {S : Nat → Prop} {w : World} {xs : List Nat} {cs : List Value} (h : NatS.rep S w xs cs) : RawN.rep S w (Pl.val B64 xs) cs := ⟨xs, h, rfl⟩
theorem NumN.zero (S : Nat → Prop) (w : World) : NumN.rep S w 0 [.slice none 0 0] := ⟨[], sl_nil _ S w, Pl.canon_nil, rfl⟩

/-- an error: 0 is none -/
def errV (c : Nat) : Value := if c = 0 then .nilIface else .iface 38 (.int .i64 (c : Int))
theorem errV_zero : errV 0 = .nilIface := rfl

theorem info65 : (Try.prog.info? 65).map (fun i => (i.zero, i.size, i.bytes)) = some (some (.int .u64 0), 1, 8) := by kernel_rfl

theorem dec_at (xs : List Nat) (k : Nat) (hk : k < xs.length) : xs.getD k 0 = xs[k] := by
  simp [List.getD_eq_getElem?_getD, List.getElem?_eq_getElem hk]

set_option maxHeartbeats 400000 in
theorem trim_walk (w : World) (S : Nat → Prop) (A : Option Addr) (xs : List Nat) (cap : Nat) (h : NatS.rep S w xs [.slice A xs.length cap]) :
    Calls Try.prog 63 #[.slice A xs.length cap] w fun e w' => e = .returned (.slice A (Pl.trimN xs xs.length) cap) ∧ w = w' := by
  obtain ⟨_, hc, hm⟩ := sl_cap h
  go_enter Try.func63, Try.ntmps63
  go_wp2
  go_loop [3] (fun n => ∃ k : Nat, k ≤ xs.length ∧ n = .int .i64 k ∧ Pl.trimN xs xs.length = Pl.trimN xs k) (fun n => (intOf n).toNat)
  case atStart => exact ⟨_, Nat.le_refl _, rfl, rfl⟩
  case round =>
    obtain ⟨k, hk, rfl, ht⟩ := hrel
    have Ht := hid ht; clear ht
    cases k with
    | zero =>
      go_wp2
      go_ret
      exact ⟨by rw [Ht.out]; rfl, rfl⟩
    | succ k =>
      obtain ⟨b, o, rfl, _, hcell, _⟩ := num_at h k (by omega)
      have Hd := hid (dec_at xs k (by omega))
      by_cases hz : xs[k] = 0
      · have hz' : ((xs[k] : Int) == 0) = true := by simp [hz]
        have Hz := hid hz; clear hz
        go_wp2
        go_round
        case rel => exact ⟨k, by omega, rfl, by rw [Ht.out, Pl.trimN, Hd.out, if_pos Hz.out]⟩
        case measure => simp [intOf]
      · have hz' : ((xs[k] : Int) == 0) = false := by simp [hz]
        go_wp2
        go_ret
        exact ⟨by rw [Ht.out, Pl.trimN, Hd.out, if_neg hz]; rfl, rfl⟩

/-- trim: the same memory, without noughts at the end -/
theorem trim_calls {w : World} {S : Nat → Prop} {xs : List Nat} {v : Value} (h : NatS.rep S w xs [v]) :
    Calls Try.prog 63 #[v] w fun e w' => (∃ u, e = .returned u ∧ NatS.rep S w (Pl.trim xs) [u]) ∧ w = w' := by
  obtain ⟨A, cap, rfl, hc, hm⟩ := sl_open h
  refine (trim_walk w S A xs cap h).mono fun e w' ⟨he, hw⟩ => ⟨⟨_, he, ?_⟩, hw⟩
  have hle := Pl.trimN_le xs xs.length
  have := sl_cut h 0 (Pl.trimN xs xs.length) (Nat.zero_le _) hle A (fun _ b o e => by simpa using e) (Pl.trimN xs xs.length) cap rfl (by omega) hm
  simpa [Pl.trim] using this


set_option maxHeartbeats 400000 in
theorem clone_walk (w : World) (S : Nat → Prop) (A : Option Addr) (xs : List Nat) (cap : Nat) (h : NatS.rep S w xs [.slice A xs.length cap]) (hl : xs.length * 8 ≤ 140737488355328) :
    Calls Try.prog 59 #[.slice A xs.length cap] w fun e w' => (∃ u, e = .returned u ∧ Own (Rep.num .u64 B64) w.heap.size 65 (fun _ => False) w' xs u) ∧ Below w.heap.size w w' := by
  have hq := fun (w : World) => Lib.run_eql_slice_nil (P := Try.prog) w 24 65 A xs.length cap 0 0 Try.underlying24
  rcases A with _ | a
  · obtain rfl : xs = [] := by
      rcases Nat.eq_zero_or_pos xs.length with h0 | h0
      · exact List.eq_nil_of_length_eq_zero h0
      · obtain ⟨b, o, e, _⟩ := num_at h 0 h0; cases e
    clear h
    simp only [List.length_nil] at hq ⊢
    go_enter Try.func59, Try.ntmps59
    go_wp2
    go_ret
    exact ⟨⟨_, rfl, Own.nil _ _ _ _ _⟩, Below.refl _ _⟩
  · go_enter Try.func59, Try.ntmps59
    have hb := (Below.refl w.heap.size w).alloc (Nat.le_refl _) (.cells #[] 65)
    have h' := (Rep.num .u64 B64).sl.below h hb
    go_wp2_with (at_builtin; refine wpList_append_rep (r := Rep.num .u64 B64) rfl _ _ 24 65 (.int .u64 0) 8 rfl Try.underlying24 info65 rfl (by decide) (by decide) w.heap.size _ [] (S := fun b => b < w.heap.size) _ xs rfl rfl ?c1 ?c2 ?c3 ?c4 ?c5 ?_)
    case c1 => exact Own.lit _ _ _ _ _ [] #[] (Nat.le_refl _) rfl 0 rfl (by omega)
    case c2 => exact (Rep.num .u64 B64).sl.mono ((Rep.num .u64 B64).sl.old h) (fun _ hb => hb) (Same.of_below hb)
    case c3 => simpa using hl
    case c4 => exact hb.size
    case c5 =>
      intro b hlt
      exact ⟨Nat.lt_of_lt_of_le hlt hb.size, ne_own (by omega)⟩
    intro v' w1 hown hg _
    have hB1 := hb.grown hg hb.size (fun k hk => own_ge hk (Nat.le_refl _))
    clear hb hg
    go_wp2
    go_ret
    refine ⟨⟨_, rfl, ?_⟩, hB1⟩
    obtain ⟨cs, h1, h2⟩ := hown
    exact ⟨cs, h1, repL_num.2 (repL_num.1 h2)⟩


/-- slices.Clone of a number: new memory -/
theorem clone_calls {w : World} {S : Nat → Prop} {xs : List Nat} {v : Value} (h : NatS.rep S w xs [v]) :
    Calls Try.prog 59 #[v] w fun e w' => (∃ u, e = .returned u ∧ NatS.rep (Fresh w w') w' xs [u]) ∧ Below w.heap.size w w' := by
  obtain ⟨A, cap, rfl, hc, hm⟩ := sl_open h
  have hb := sl_bytes h
  refine (clone_walk w S A xs cap h hb).mono fun e w' ⟨⟨u, he, hu⟩, hw⟩ => ⟨⟨u, he, ?_⟩, hw⟩
  exact (hu.weaken (S' := Fresh w w') (Nat.le_refl _) (fun _ h => h.elim)).slFresh hb

set_option maxHeartbeats 400000 in
theorem norm_calls {w : World} {S : Nat → Prop} {n : Nat} {v : Value} (h : RawN.rep S w n [v]) :
    Calls Try.prog 39 #[v] w fun e w' => (∃ u, e = .returned u ∧ NumN.rep (Fresh w w') w' n [u]) ∧ Below w.heap.size w w' := by
  obtain ⟨xs, h, rfl⟩ := h
  go_enter Try.func39, Try.ntmps39
  go_wp2_with fail
  refine (trim_calls h).mono ?_
  rintro e w' ⟨⟨u, rfl, hu⟩, rfl⟩
  go_wp2_with fail
  refine (clone_calls hu).mono ?_
  rintro e w1 ⟨⟨u, rfl, hu⟩, hw⟩
  go_wp2
  go_ret
  exact ⟨⟨_, rfl, _, hu, Pl.trim_canon xs, Pl.trim_val B64 xs⟩, hw⟩

theorem ret_int {k : IntKind} {a b : Int} (h : a = b) : Ending.returned (.int k a) = .returned (.int k b) := by rw [h]

theorem rep_drewN {α : Type} (r : Rep α) {S : Nat → Prop} {w : World} {x : α} {cs : List Value} (h : r.rep S w x cs) (n : Nat) : r.rep S (w.drewN n) x cs := r.mono h (fun _ h => h) (fun _ _ => rfl)

set_option maxHeartbeats 1000000 in
theorem cmp_walk (w : World) (S : Nat → Prop) (xs ys : List Nat) (va vb : Value) (ha : NatS.rep S w xs [va]) (hb : NatS.rep S w ys [vb]) :
    Calls Try.prog 40 #[va, vb] w fun e w' => e = .returned (.int .i64 (Pl.cmp (Pl.val B64 xs) (Pl.val B64 ys))) ∧ ∃ n, w' = w.drewN n := by
  have ea := hid (Pl.trim_val B64 xs)
  have eb := hid (Pl.trim_val B64 ys)
  generalize Pl.val B64 xs = m at *
  generalize Pl.val B64 ys = n at *
  go_enter Try.func40, Try.ntmps40
  go_wp2_with fail
  refine (trim_calls ha).mono ?_
  rintro e w' ⟨⟨u, rfl, hu⟩, rfl⟩
  go_wp2_with fail
  refine (trim_calls hb).mono ?_
  rintro e w' ⟨⟨u', rfl, hu'⟩, rfl⟩
  have ca := Pl.trim_canon xs
  have cb := Pl.trim_canon ys
  generalize Pl.trim xs = p at *
  generalize Pl.trim ys = q at *
  have da := num_dig hu
  have db := num_dig hu'
  obtain ⟨A, c1, rfl, hc1, hm1⟩ := sl_open hu
  obtain ⟨A', c2, rfl, hc2, hm2⟩ := sl_open hu'
  rcases Nat.lt_trichotomy p.length q.length with hlt | heq | hgt
  · have hv := Pl.val_lt_of_len B64_pos da cb hlt
    rw [ea.out, eb.out] at hv
    have h1 : ((p.length : Int) == (q.length : Int)) = false := by simp; omega
    go_wp2
    go_ret
    exact ⟨ret_int (by unfold Pl.cmp; rw [if_pos hv]), 0, rfl⟩
  · have Heq := hid heq; clear heq
    have h1 : ((p.length : Int) == (q.length : Int)) = true := by have := Heq.out; simp; omega
    go_wp2
    go_loopw [5] (fun i wr => ∃ k : Nat, k ≤ p.length ∧ i = .int .i64 ((k : Int) - 1) ∧ Hid (Pl.val B64 (p.drop k) = Pl.val B64 (q.drop k)) ∧ ∃ n, wr = w.drewN n) (fun i _ => (intOf i + 1).toNat)
    case atStart => exact ⟨_, Nat.le_refl _, rfl, hid (by rw [List.drop_of_length_le (Nat.le_refl _), List.drop_of_length_le (by rw [Heq.out]; exact Nat.le_refl _)]), 0, rfl⟩
    case round =>
      obtain ⟨k, hk, rfl, hv, nn, rfl⟩ := hrel
      cases k with
      | zero =>
        have hv := hv.out
        rw [List.drop_zero, List.drop_zero, ea.out, eb.out] at hv
        subst hv
        go_wp2
        go_ret
        exact ⟨ret_int (by unfold Pl.cmp; rw [if_neg (by omega), if_neg (by omega)]), nn, rfl⟩
      | succ k =>
        have hk' : k < q.length := by have := Heq.out; omega
        obtain ⟨b, o, rfl, _, hcell, _⟩ := num_at hu k (by omega)
        obtain ⟨b', o', rfl, _, hcell', _⟩ := num_at hu' k (by omega)
        rw [show (((k + 1 : Nat) : Int) - 1) = (k : Int) by omega]
        have hi0 : (0 : Int) ≤ (k : Int) := by omega
        have hi1 : (k : Int) < (p.length : Int) := by omega
        have hi2 : (k : Int) < (q.length : Int) := by omega
        rcases Nat.lt_trichotomy p[k] q[k] with hlt | he | hgt
        · have hx := Pl.val_lt_at da k hk hk' hv.out hlt
          rw [ea.out, eb.out] at hx
          go_wp2_with fail
          go_quiet (fail)
          go_wp2
          go_ret
          exact ⟨ret_int (by unfold Pl.cmp; rw [if_pos hx]), _, by rw [World.drewN_drewN]⟩
        · have hle : p[k] ≤ q[k] := by omega
          have hge : q[k] ≤ p[k] := by omega
          have hx : Hid (Pl.val B64 (p.drop k) = Pl.val B64 (q.drop k)) := by
            show _ = _
            rw [Pl.val_drop B64 p k hk, Pl.val_drop B64 q k hk', hv.out, he]
          clear he hv
          go_wp2_with fail
          go_quiet (fail)
          go_wp2_with fail
          go_quiet (fail)
          go_wp2
          go_roundw
          case rel => exact ⟨k, by omega, by go_num, hx, _, rfl⟩
          case measure => simp [intOf]
        · have hx := Pl.val_lt_at db k hk' hk hv.out.symm hgt
          rw [ea.out, eb.out] at hx
          go_wp2_with fail
          go_quiet (fail)
          go_wp2_with fail
          go_quiet (fail)
          go_wp2
          go_ret
          exact ⟨ret_int (by unfold Pl.cmp; rw [if_neg (by omega), if_pos hx]), _, by rw [World.drewN_drewN, World.drewN_drewN]⟩
  · have hv := Pl.val_lt_of_len B64_pos db ca hgt
    rw [ea.out, eb.out] at hv
    have h1 : ((p.length : Int) == (q.length : Int)) = false := by simp; omega
    go_wp2
    go_ret
    exact ⟨ret_int (by unfold Pl.cmp; rw [if_neg (by omega), if_pos hv]), 0, rfl⟩


theorem below_drewN {w : World} (n : Nat) : Below w.heap.size w (w.drewN n) := ⟨rfl, rfl, rfl, Nat.le_refl _, fun _ _ => rfl⟩

/-- no block has turned -/
structure Still (w w' : World) : Prop where
  below : Below w.heap.size w w'
  heap : w'.heap = w.heap
theorem Still.drewN (w : World) (n : Nat) : Still w (w.drewN n) := ⟨below_drewN n, rfl⟩
theorem Still.refl (w : World) : Still w w := ⟨Below.refl _ _, rfl⟩
theorem Still.rep {w w' : World} (h : Still w w') {α : Type} (r : Rep α) {S : Nat → Prop} {x : α} {cs : List Value} (hr : r.rep S w x cs) : r.rep S w' x cs := r.mono hr (fun _ h => h) (fun b _ => by rw [h.heap])
theorem Still.row {w w' : World} (h : Still w w') {g : Nat} {e : TypeId} {cs : List Value} (hr : Row w g e cs) : Row w' g e cs := by unfold Row; rw [h.heap]; exact hr
theorem Still.cell {w w' : World} (h : Still w w') (a : Addr) : w'.cell? a = w.cell? a := World.cell?_of_block (by rw [h.heap])
theorem Still.frozen {w w' : World} (h : Still w w') (a : Addr) : w'.frozen? a = w.frozen? a := World.frozen?_of_block (by rw [h.heap])
theorem Still.trans {a b c : World} (h : Still a b) (k : Still b c) : Still a c := ⟨below_trans h.below k.below, k.heap.trans h.heap⟩
theorem Still.grown {w w' : World} (h : Still w w') (row : Option Nat) : w.grownBy w' row := grown_below h.below row
theorem Still.size {w w' : World} (h : Still w w') : w'.heap.size = w.heap.size := by rw [h.heap]

/-- nat.Cmp -/
theorem cmp_calls {w : World} {S : Nat → Prop} {m n : Nat} {va vb : Value} (ha : RawN.rep S w m [va]) (hb : RawN.rep S w n [vb]) :
    Calls Try.prog 40 #[va, vb] w fun e w' => e = .returned (.int .i64 (Pl.cmp m n)) ∧ Still w w' := by
  obtain ⟨xs, ha, rfl⟩ := ha
  obtain ⟨ys, hb, rfl⟩ := hb
  refine (cmp_walk w S xs ys va vb ha hb).mono fun e w' ⟨he, n, hw⟩ => ⟨he, ?_⟩
  subst hw
  exact Still.drewN w n

set_option maxHeartbeats 1000000 in
/-- what 'both' answers -/
def BothPost (S : Nat → Prop) (m n : Nat) (w : World) (e : Ending) : Prop :=
  if B64 ^ 64 ≤ m ∨ B64 ^ 64 ≤ n then e = .returned (.tuple #[.slice none 0 0, .slice none 0 0, errV 2])
  else ∃ u v, e = .returned (.tuple #[u, v, errV 0]) ∧ NumN.rep S w m [u] ∧ NumN.rep S w n [v]

theorem both_calls {w : World} {S : Nat → Prop} {m n : Nat} {va vb : Value} (ha : RawN.rep S w m [va]) (hb : RawN.rep S w n [vb]) :
    Calls Try.prog 64 #[va, vb] w fun e w' => BothPost S m n w e ∧ w = w' := by
  obtain ⟨xs, ha, ea⟩ := ha
  obtain ⟨ys, hb, eb⟩ := hb
  rw [← Pl.trim_val] at ea eb
  have Ea := hid ea
  have Eb := hid eb
  clear ea eb
  go_enter Try.func64, Try.ntmps64
  go_wp2_with fail
  refine (trim_calls ha).mono ?_
  rintro e w' ⟨⟨u, rfl, hu⟩, rfl⟩
  go_wp2_with fail
  refine (trim_calls hb).mono ?_
  rintro e w' ⟨⟨u', rfl, hu'⟩, rfl⟩
  have ca := Pl.trim_canon xs
  have cb := Pl.trim_canon ys
  generalize Pl.trim xs = p at *
  generalize Pl.trim ys = q at *
  have la := Pl.canon_len_le (n := 64) B64_gt (num_dig hu) ca
  have lb := Pl.canon_len_le (n := 64) B64_gt (num_dig hu') cb
  rw [Ea.out] at la
  rw [Eb.out] at lb
  have Pa : NumN.rep S w m [u] := ⟨p, hu, ca, Ea.out⟩
  have Pb : NumN.rep S w n [u'] := ⟨q, hu', cb, Eb.out⟩
  obtain ⟨A, c1, rfl, hc1, hm1⟩ := sl_open hu
  obtain ⟨A', c2, rfl, hc2, hm2⟩ := sl_open hu'
  have La := hid la
  have Lb := hid lb
  clear la lb
  by_cases h1 : p.length ≤ 64
  · by_cases h2 : q.length ≤ 64
    · go_wp2
      go_ret3
      have h1 := La.out.1 h1
      have h2 := Lb.out.1 h2
      exact ⟨by unfold BothPost; rw [if_neg (by omega)]; exact ⟨_, _, rfl, Pa, Pb⟩, rfl⟩
    · go_wp2
      go_ret3
      have h2 := (not_congr Lb.out).1 h2
      exact ⟨by unfold BothPost; rw [if_pos (by omega)]; rfl, rfl⟩
  · go_wp2
    go_ret3
    have h1 := (not_congr La.out).1 h1
    exact ⟨by unfold BothPost; rw [if_pos (by omega)]; rfl, rfl⟩


theorem both_ok {w : World} {S : Nat → Prop} {m n : Nat} {va vb : Value} (ha : RawN.rep S w m [va]) (hb : RawN.rep S w n [vb]) (hm : m < B64 ^ 64) (hn : n < B64 ^ 64) :
    Calls Try.prog 64 #[va, vb] w fun e w' => (∃ u v, e = .returned (.tuple #[u, v, .nilIface]) ∧ NumN.rep S w m [u] ∧ NumN.rep S w n [v]) ∧ w = w' := by
  refine (both_calls ha hb).mono fun e w' ⟨h, hw⟩ => ⟨?_, hw⟩
  unfold BothPost at h
  rwa [if_neg (by omega)] at h
theorem both_long {w : World} {S : Nat → Prop} {m n : Nat} {va vb : Value} (ha : RawN.rep S w m [va]) (hb : RawN.rep S w n [vb]) (hl : B64 ^ 64 ≤ m ∨ B64 ^ 64 ≤ n) :
    Calls Try.prog 64 #[va, vb] w fun e w' => e = .returned (.tuple #[.slice none 0 0, .slice none 0 0, .iface 38 (.int .i64 2)]) ∧ w = w' := by
  refine (both_calls ha hb).mono fun e w' ⟨h, hw⟩ => ⟨?_, hw⟩
  unfold BothPost at h
  rwa [if_pos hl] at h


/-- a number of one digit, written out -/
theorem lit1 (w : World) (x : Nat) (hx : x < B64) : NatS.rep (fun b => b = w.heap.size) (w.alloc (.cells #[.int .u64 (x : Int)] 65)) [x] [.slice (some ⟨w.heap.size, 0, none⟩) 1 1] :=
  (Row.new w 65 #[.int .u64 (x : Int)]).slNum (k := .u64) (xs := [x]) (S := fun b => b = w.heap.size) rfl (Pl.Dig.one hx) 1 (by simp) (by omega) (by simp)

end Go.Proofs.Ytphbacggmhjmgaa
