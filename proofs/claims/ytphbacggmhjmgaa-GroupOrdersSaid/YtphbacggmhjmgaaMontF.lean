/- The layer mont, sixth part: what reckons modulo a number is made. -/
import Derived.Test.YtphbacggmhjmgaaMontE
namespace Go.Proofs.Ytphbacggmhjmgaa
open Go.RowKit

/-- what mont.New answers -/
def NewPost (m : Nat) (w : World) (e : Ending) (w' : World) : Prop :=
  if B64 ^ 32 ≤ m then e = .returned (.tuple #[.pointer none, errV 2])
  else if m % 2 = 0 ∨ m < 3 then e = .returned (.tuple #[.pointer none, errV 5])
  else ∃ v, e = .returned (.tuple #[v, .nilIface]) ∧ ModP.rep (Fresh w w') w' m [v]

theorem u64_up (a : Int) : IntKind.u64.wrap a = IntKind.u64.wrap (a + 18446744073709551616) := by
  have e : (2 : Int) ^ IntKind.u64.bits = 18446744073709551616 := rfl
  simp only [IntKind.wrap, IntKind.signed, e]
  simp
theorem same_setCell {S : Nat → Prop} {w w' : World} (h : Same S w w') {a : Addr} (ha : ∀ b, S b → b ≠ a.block) (v : Value) : Same S w (w'.setCell a v) := by
  intro b hb; rw [heap_setCell_other w' a b v (ha b hb)]; exact h b hb

theorem num_open {S : Nat → Prop} {w : World} {n : Nat} {v : Value} (h : NumN.rep S w n [v]) : ∃ A l c, v = .slice A l c := by
  obtain ⟨xs, hx, _⟩ := h
  obtain ⟨A, c, rfl, _⟩ := sl_open hx
  exact ⟨_, _, _, rfl⟩

theorem newton_b {a x P Q y M K : Nat} (hMB : B64 % M = 0) (hMK : M = K * K) (h : a * x % K = 1 % K) (hP : P = a * x % B64) (hQ : Q = (2 + B64 - P) % B64) (hy : y = x * Q % B64) : a * y % M = 1 % M := by
  obtain ⟨c, hc⟩ := Nat.dvd_of_mod_eq_zero hMB
  have hPl : P < B64 := by rw [hP]; exact Nat.mod_lt _ B64_pos
  have h1 : (Q + a * x) % B64 = 2 % B64 := by
    rw [Nat.add_mod, ← hP, hQ, Nat.mod_mod, Nat.mod_add_mod, show 2 + B64 - P + P = 2 + B64 by omega, Nat.add_mod_right]
  have h2 : (y + x * (a * x)) % B64 = 2 * x % B64 := by
    rw [hy, Nat.mod_add_mod, ← Nat.mul_add, Nat.mul_mod, h1, ← Nat.mul_mod, Nat.mul_comm]
  refine Pl.newton_step hMK h ?_
  have h3 := congrArg (· % M) h2
  simp only [hc, Nat.mod_mul_right_mod] at h3
  exact h3

theorem ninv_ok {inv m0 m : Nat} {X : Nat} (hm : m = m0 + B64 * X) (h : m0 * inv % B64 = 1 % B64) (hi : inv < B64) : ((B64 - inv) * m + 1) % B64 = 0 := by
  have e1 : (B64 - inv) * m + inv * m = B64 * m := by rw [← Nat.add_mul]; congr 1; omega
  have e2 : inv * m % B64 = 1 := by
    rw [hm, Nat.mul_add, Nat.mul_left_comm, Nat.add_mul_mod_self_left, Nat.mul_comm, h]; rfl
  have e3 : ((B64 - inv) * m + inv * m) % B64 = ((B64 - inv) * m + 1) % B64 := by
    rw [Nat.add_mod, e2, Nat.mod_add_mod]
  rw [← e3, e1, Nat.mul_mod_right]

set_option maxHeartbeats 4000000 in
set_option maxRecDepth 100000 in
theorem mnew_main {w : World} {S : Nat → Prop} {m : Nat} {v : Value} (ha : RawN.rep S w m [v]) (hl : m < B64 ^ 32) (ho : m % 2 = 1) (h3 : 3 ≤ m) :
    Calls Try.prog 53 #[v] w fun e w' => NewPost m w e w' ∧ Below w.heap.size w w' := by
  go_enter Try.func53, Try.ntmps53
  go_wp2_with fail
  refine (norm_calls ha).mono ?_
  rintro e w1 ⟨⟨u, rfl, ms, hms, hc, hv⟩, hb1⟩
  have dm := num_dig hms
  have hl32 := (Pl.canon_len_le (n := 32) B64_gt dm hc).2 (by rw [hv]; exact hl)
  have hpos : 0 < ms.length := by
    rcases Nat.eq_zero_or_pos ms.length with h | h
    · obtain rfl := List.eq_nil_of_length_eq_zero h
      rw [Pl.val_nil] at hv; omega
    · exact h
  have hv0 := Pl.val_drop B64 ms 0 hpos
  rw [List.drop_zero, hv] at hv0
  obtain ⟨A, cap, rfl, hcap, hcm⟩ := sl_open hms
  obtain ⟨b, o, rfl, hSb, hm0c, hm0b⟩ := num_at hms 0 hpos
  rw [Nat.add_zero] at hm0c
  obtain ⟨m0, hm0⟩ : ∃ m0, m0 = ms[0] := ⟨_, rfl⟩
  rw [← hm0] at hm0c hm0b hv0
  obtain ⟨X, hX⟩ : ∃ X, X = Pl.val B64 (ms.drop (0 + 1)) := ⟨_, rfl⟩
  rw [← hX] at hv0
  have hodd : m0 % 2 = 1 := by unfold B64 at hv0; omega
  have hsm : ms.length = 1 → 3 ≤ m0 := by
    intro h1
    have : X = 0 := by rw [hX, List.drop_of_length_le (by omega)]; rfl
    rw [this] at hv0; omega
  have q0 : ((ms.length : Int) == 0) = false := by rw [beq_eq_false_iff_ne]; omega
  have q1 : ((m0 : Int) % 2 == 0) = false := by rw [beq_eq_false_iff_ne]; omega
  have Hv := hid hv
  have Hv0 := hid hv0
  have Hodd := hid hodd
  have Ho := hid ho
  have Hsm := hid hsm
  clear hv hv0 hX hm0 hodd ho hsm
  go_upto_region 4 with (fail)
  go_cut [18] (fun c wc => c = .bool false ∧ wc = w1)
  case first =>
    by_cases h1 : ms.length = 1
    · have h2 := Hsm.out h1
      have q2 : ((ms.length : Int) == 1) = true := by rw [beq_iff_eq]; omega
      have H1 := hid h1
      clear h1
      go_wp2_with fail
      go_meet
      case rel => exact ⟨by simp; omega, rfl⟩
    · have q2 : ((ms.length : Int) == 1) = false := by rw [beq_eq_false_iff_ne]; omega
      clear h1
      go_wp2_with fail
      go_meet
      case rel => exact ⟨rfl, rfl⟩
  case rest =>
    obtain ⟨rfl, rfl⟩ := hcut
    go_wp2_with fail
    go_loop [41, 4] (fun kv iv => ∃ k inv : Nat, kv = .int .i64 (k : Int) ∧ iv = .int .u64 (inv : Int) ∧ k ≤ 6 ∧ inv < B64 ∧ Hid (m0 * inv % 2 ^ 2 ^ k = 1 % 2 ^ 2 ^ k)) (fun kv _ => 6 - (intOf kv).toNat)
    case atStart => exact ⟨0, 1, rfl, rfl, by omega, B64_gt, hid (by simpa using Hodd.out)⟩
    case round =>
      obtain ⟨k, inv, rfl, rfl, hk, hib, hinv⟩ := hrel
      by_cases hlt : k < 6
      · obtain ⟨P, hP⟩ : ∃ P, P = m0 * inv % B64 := ⟨_, rfl⟩
        obtain ⟨Q, hQ⟩ : ∃ Q, Q = (2 + B64 - P) % B64 := ⟨_, rfl⟩
        obtain ⟨y, hy⟩ : ∃ y, y = inv * Q % B64 := ⟨_, rfl⟩
        have hPb : P < B64 := by rw [hP]; exact Nat.mod_lt _ B64_pos
        have w1' : IntKind.u64.wrap ((m0 : Int) * (inv : Int)) = (P : Int) := by rw [hP]; exact u64_mod (by push_cast; rfl)
        have w2' : IntKind.u64.wrap ((2 : Int) - (P : Int)) = (Q : Int) := by
          rw [hQ]
          have e : ((2 + B64 - P : Nat) : Int) = (2 : Int) - (P : Int) + 18446744073709551616 := by unfold B64 at hPb ⊢; omega
          rw [u64_up, ← e]; exact u64_mod rfl
        have w3' : IntKind.u64.wrap ((inv : Int) * (Q : Int)) = (y : Int) := by rw [hy]; exact u64_mod (by push_cast; rfl)
        have hyb : y < B64 := by rw [hy]; exact Nat.mod_lt _ B64_pos
        have hn : Hid (m0 * y % 2 ^ 2 ^ (k + 1) = 1 % 2 ^ 2 ^ (k + 1)) := by
          refine newton_b (M := 2 ^ 2 ^ (k + 1)) ?_ ?_ hinv.out hP hQ hy
          · refine Nat.mod_eq_zero_of_dvd (Nat.pow_dvd_pow 2 (m := 2 ^ (k + 1)) (n := 64) ?_)
            exact Nat.pow_le_pow_right (n := 2) (by omega) (show k + 1 ≤ 6 by omega)
          · rw [← Nat.pow_add, ← Nat.two_mul, Nat.pow_succ, Nat.mul_comm 2]
        clear hinv hP hQ hy
        go_wp2_with fail
        go_round
        case rel => exact ⟨k + 1, y, by go_num, rfl, by omega, hyb, hn⟩
        case measure => simp [intOf]; omega
      · obtain rfl : k = 6 := by omega
        have e6 : 2 ^ 2 ^ 6 = B64 := by decide
        have hi := hinv.out
        rw [e6] at hi
        have hi0 : inv ≠ 0 := by
          intro h; subst h
          rw [Nat.mul_zero] at hi
          exact absurd hi (by decide)
        obtain ⟨ni, hni⟩ : ∃ ni, ni = B64 - inv := ⟨_, rfl⟩
        have hnb : ni < B64 := by omega
        have hnw : IntKind.u64.wrap (-(inv : Int)) = (ni : Int) := by
          have e : (ni : Int) = -(inv : Int) + 18446744073709551616 := by unfold B64 at *; omega
          rw [u64_up, ← e]
          exact u64_eq rfl (by unfold B64 at hnb; exact hnb)
        have hok := hid (ninv_ok Hv0.out hi hib)
        rw [← hni] at hok
        obtain ⟨n, hn⟩ : ∃ n, n = ms.length := ⟨_, rfl⟩
        have hmk : ∀ W : World, (Instr.makeSlice 24 (.int .i64 ((ms.length : Int) + 1)) (.int .i64 ((ms.length : Int) + 1))).run Try.prog W = .ok (.slice (some ⟨W.heap.size, 0, none⟩) (ms.length + 1) (ms.length + 1)) (W.alloc (.cells (zerosOf (.int .u64 0) (ms.length + 1)) 65)) := fun W => run_make_u64 (ms.length + 1) (by omega) W
        have hba := below_alloc (Below.refl wc.heap.size wc) (.cells #[.slice (some ⟨b, o, none⟩) ms.length cap, .int .u64 (ni : Int), .slice none 0 0] 76)
        have rowa := Row.new wc 76 #[.slice (some ⟨b, o, none⟩) ms.length cap, .int .u64 (ni : Int), .slice none 0 0]
        have rowb3 := row_newAt (wc.alloc (.cells #[.slice (some ⟨b, o, none⟩) ms.length cap, .int .u64 (ni : Int), .slice none 0 0] 76)) 65 ((zerosOf (.int .u64 0) (ms.length + 1)).setIfInBounds ms.length (.int .u64 1)) (wc.heap.size + 1) (by simp)
        rw [Array.toList_setIfInBounds, zerosOf_num, show Value.int .u64 1 = .int .u64 ((1 : Nat) : Int) from rfl, nums_set] at rowb3
        have rowa3 := rowa.alloc (.cells ((zerosOf (.int .u64 0) (ms.length + 1)).setIfInBounds ms.length (.int .u64 1)) 65)
        have hbc := below_alloc hba (.cells ((zerosOf (.int .u64 0) (ms.length + 1)).setIfInBounds ms.length (.int .u64 1)) 65)
        have cb0 : (zerosOf (.int .u64 0) (ms.length + 1))[ms.length]? = some (.int .u64 0) := by
          rw [← Array.getElem?_toList, zerosOf_toList]; simp
        have hhv : Pl.val B64 ((List.replicate (ms.length + 1) 0).set ms.length 1) = B64 ^ ms.length := by
          have h1 := Pl.val_take_set B64 (List.replicate (ms.length + 1) 0) ms.length 1 (by simp)
          rw [List.take_of_length_le (by simp), List.take_replicate, Pl.val_replicate] at h1
          omega
        have hhs := RawN.old (raw_of (rowb3.slNum (B := B64) (S := fun z => z = wc.heap.size + 1) rfl ((Pl.Dig.replicate B64_pos _).set _ B64_gt) (ms.length + 1) (by simp) (by omega) (by simp; omega)))
        rw [hhv] at hhs
        simp only [List.length_set, List.length_replicate] at hhs
        have hms2 := (Rep.num .u64 B64).sl.below hms hbc
        have hmN : NumN.rep (Fresh w wc) _ m [_] := ⟨ms, hms2, hc, Hv.out⟩
        have hmR := num_raw (NumN.old hmN)
        have hBlt : B64 ^ ms.length ≤ B64 ^ 32 := Nat.pow_le_pow_right B64_pos hl32
        have h264 := B32_2
        have hpp : 0 < B64 ^ ms.length := Nat.pow_pos B64_pos
        clear hi e6 hinv hni hn hhv
        go_wp2_with fail
        refine (div_ok hhs hmR (by omega) (by omega) (by omega)).mono ?_
        rintro e w3 ⟨⟨qv, h, rfl, _, hh⟩, hb3⟩
        have hb3' := below_trans hbc hb3
        have hmlt := Nat.mod_lt (B64 ^ ms.length) (show 0 < m by omega)
        have hhl : B64 ^ ms.length % m < B64 ^ 32 := by omega
        have hml := B32_mul hhl hhl
        have hmulE : mulE (B64 ^ ms.length % m) (B64 ^ ms.length % m) = .ok (B64 ^ ms.length % m * (B64 ^ ms.length % m)) := by unfold mulE; rw [if_neg (by omega)]
        have HmulE := hid hmulE
        clear hmulE
        go_wp2_with fail
        refine (mul_calls (num_raw hh) (num_raw hh)).mono ?_
        rintro e w4 ⟨he, hb4⟩
        rw [HmulE.out] at he
        obtain ⟨p, rfl, hp⟩ := he
        rw [errV_zero]
        have hb4' := below_trans hb3' hb4
        have hm4 := num_raw (NumN.old (NumN.below hmN (below_trans hb3 hb4)))
        go_wp2_with fail
        refine (div_ok (num_raw (NumN.old hp)) hm4 (by omega) (by omega) (by omega)).mono ?_
        rintro e w5 ⟨⟨qv2, r2, rfl, _, hr2⟩, hb5⟩
        have hb5' := below_trans hb4' hb5
        obtain ⟨A5, l5, c5, rfl⟩ := num_open hr2
        have rowa5 := rowa3.below (by simp; omega) (below_trans (below_trans hb3 hb4) hb5)
        have ca : w5.cell? ⟨wc.heap.size, 2, none⟩ = some (.slice none 0 0) := rowa5.cell 2 (by simp)
        have fa := rowa5.frozen 2
        have rowa6 := rowa5.set 2 (.slice A5 l5 c5)
        have hs3 := hb3.size
        have hs4 := hb4.size
        simp at hs3
        have hs5 := hb5.size
        have hs1 := hb1.size
        have hsame : Same (Fresh w wc) wc (w5.setCell ⟨wc.heap.size, 2, none⟩ (.slice A5 l5 c5)) := same_setCell (Same.mono (Same.of_below hb5') (fun z hz => hz.2)) (fun z hz e => by have := hz.2; have e' : z = wc.heap.size := e; omega) _
        have hms6 := NatS.mono hms (S' := Fresh w (w5.setCell ⟨wc.heap.size, 2, none⟩ (.slice A5 l5 c5))) (fun z hz => ⟨hz.1, by have := hz.2; simp; omega⟩) hsame
        have hr6 := NumN.mono hr2 (S' := Fresh w (w5.setCell ⟨wc.heap.size, 2, none⟩ (.slice A5 l5 c5))) (fun z hz => ⟨by have := hz.1; omega, by have := hz.2; simpa using this⟩) (same_setCell (a := ⟨wc.heap.size, 2, none⟩) (Same.refl _ _) (fun z hz e => by have := hz.1; have e' : z = wc.heap.size := e; omega) (.slice A5 l5 c5))
        have hinv6 := hok.out
        have hB6 : Below w.heap.size w (w5.setCell ⟨wc.heap.size, 2, none⟩ (.slice A5 l5 c5)) := below_setCell (below_trans hb1 hb5') (by show _ ≤ wc.heap.size; omega) _
        have hres : ModP.rep (Fresh w (w5.setCell ⟨wc.heap.size, 2, none⟩ (.slice A5 l5 c5))) (w5.setCell ⟨wc.heap.size, 2, none⟩ (.slice A5 l5 c5)) m [.pointer (some ⟨wc.heap.size, 0, none⟩)] := by
          refine ⟨(ms, ni, _), ⟨wc.heap.size, _, rfl, ⟨hs1, rowa6.lt⟩, rowa6.lt, rowa6, [_], _, rfl, hms6, [_], _, rfl, ⟨rfl, hnb⟩, hr6⟩, ⟨hc, Hv.out, Ho.out, h3, hl32, hinv6, ?_⟩⟩
          show _ = _
          rw [← Nat.mul_mod]
        clear hinv6
        go_wp2_with fail
        go_ret2
        refine ⟨?_, hB6⟩
        unfold NewPost
        rw [if_neg (by omega), if_neg (by have := Ho.out; omega)]
        exact ⟨_, rfl, hres⟩

set_option maxHeartbeats 2000000 in
theorem mnew_calls {w : World} {S : Nat → Prop} {m : Nat} {v : Value} (ha : RawN.rep S w m [v]) :
    Calls Try.prog 53 #[v] w fun e w' => NewPost m w e w' ∧ Below w.heap.size w w' := by
  by_cases hl : B64 ^ 32 ≤ m
  · go_enter Try.func53, Try.ntmps53
    go_wp2_with fail
    refine (norm_calls ha).mono ?_
    rintro e w1 ⟨⟨u, rfl, ms, hms, hc, hv⟩, hb1⟩
    have hl32 : ¬ ms.length ≤ 32 := by
      rw [Pl.canon_len_le (n := 32) B64_gt (num_dig hms) hc, hv]; omega
    obtain ⟨A, cap, rfl, hcap, hcm⟩ := sl_open hms
    clear hms hc hv
    go_wp2
    go_ret2
    exact ⟨by unfold NewPost; rw [if_pos hl]; rfl, hb1⟩
  by_cases hbad : m % 2 = 0 ∨ m < 3
  · go_enter Try.func53, Try.ntmps53
    go_wp2_with fail
    refine (norm_calls ha).mono ?_
    rintro e w1 ⟨⟨u, rfl, ms, hms, hc, hv⟩, hb1⟩
    have hl32 := (Pl.canon_len_le (n := 32) B64_gt (num_dig hms) hc).2 (by rw [hv]; omega)
    have hpost : NewPost m w (.returned (.tuple #[.pointer none, errV 5])) w1 := by unfold NewPost; rw [if_neg hl, if_pos hbad]
    obtain ⟨A, cap, rfl, hcap, hcm⟩ := sl_open hms
    rcases Nat.eq_zero_or_pos ms.length with h0 | hpos
    · have q0 : ((ms.length : Int) == 0) = true := by rw [beq_iff_eq]; omega
      have H0 := hid h0
      clear h0 hms hc hv hbad
      go_wp2
      go_ret2
      exact ⟨hpost, hb1⟩
    · have hv0 := Pl.val_drop B64 ms 0 hpos
      rw [List.drop_zero, hv] at hv0
      obtain ⟨b, o, rfl, hSb, hm0c, hm0b⟩ := num_at hms 0 hpos
      rw [Nat.add_zero] at hm0c
      have h1 : ms.length = 1 → m = ms[0] := by
        intro h1
        rw [hv0, List.drop_of_length_le (by omega)]; simp [Pl.val]
      have h2 : 1 < ms.length → B64 ≤ m := by
        intro h2
        rw [← hv]
        have := hc.ge (B := B64) hpos
        have h3 : B64 ^ 1 ≤ B64 ^ (ms.length - 1) := Nat.pow_le_pow_right B64_pos (by omega)
        rw [Nat.pow_one] at h3
        omega
      obtain ⟨m0, hm0⟩ : ∃ m0, m0 = ms[0] := ⟨_, rfl⟩
      rw [← hm0] at hm0c hm0b hv0 h1
      have q0 : ((ms.length : Int) == 0) = false := by rw [beq_eq_false_iff_ne]; omega
      by_cases hev : m0 % 2 = 0
      · have q1 : ((m0 : Int) % 2 == 0) = true := by rw [beq_iff_eq]; omega
        have Hev := hid hev
        clear hev hms hc hv hbad hv0 h1 h2 hm0
        go_wp2
        go_ret2
        exact ⟨hpost, hb1⟩
      · have q1 : ((m0 : Int) % 2 == 0) = false := by rw [beq_eq_false_iff_ne]; omega
        have hb3 : m < 3 := by
          rcases hbad with h | h
          · unfold B64 at hv0; omega
          · exact h
        have h11 : ms.length = 1 := by
          rcases Nat.lt_or_ge 1 ms.length with h | h
          · have := h2 h; unfold B64 at this; omega
          · omega
        have hm3 : (m0 : Int) < 3 := by have := h1 h11; omega
        have q2 : ((ms.length : Int) == 1) = true := by rw [beq_iff_eq]; omega
        have H11 := hid h11
        clear hev hms hc hv hbad hv0 h1 h2 hm0 h11
        go_wp2
        go_ret2
        exact ⟨hpost, hb1⟩
  · exact mnew_main ha (by omega) (by omega) (by omega)

end Go.Proofs.Ytphbacggmhjmgaa
