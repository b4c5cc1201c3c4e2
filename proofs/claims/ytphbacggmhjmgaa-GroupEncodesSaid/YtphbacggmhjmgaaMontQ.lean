/- The layer mont, second part: New, Exp, Inverse. -/
import Derived.Test.YtphbacggmhjmgaaMontP
import Derived.Deep.LoopGhost

/- The layer mont, sixth part: what reckons modulo a number is made. -/
namespace Go.Proofs.Ytphbacggmhjmgaa
open Go.RowKit

/-- what mont.New answers -/
def NewPost (m : Nat) (w : World) (e : Ending) (w' : World) : Prop :=
  if B64 ^ 32 ≤ m then e = .returned (.tuple #[.pointer none, errV 2])
  else if m % 2 = 0 ∨ m < 3 then e = .returned (.tuple #[.pointer none, errV 5])
  else ∃ v, e = .returned (.tuple #[v, .nilIface]) ∧ ModP.rep (Fresh w w') w' m [v]

theorem u64_up (a : Int) : IntKind.u64.wrap a = IntKind.u64.wrap (a + 18446744073709551616) := by
  have e : (2 : Int) ^ IntKind.u64.bits = 18446744073709551616 := rfl
  simp only [IntKind.wrap, IntKind.signed, e]
  simp
theorem same_setCell {S : Nat → Prop} {w w' : World} (h : Same S w w') {a : Addr} (ha : ∀ b, S b → b ≠ a.block) (v : Value) : Same S w (w'.setCell a v) := by
  intro b hb; rw [heap_setCell_other w' a b v (ha b hb)]; exact h b hb

theorem num_open {S : Nat → Prop} {w : World} {n : Nat} {v : Value} (h : NumN.rep S w n [v]) : ∃ A l c, v = .slice A l c := by
  obtain ⟨xs, hx, _⟩ := h
  obtain ⟨A, c, rfl, _⟩ := sl_open hx
  exact ⟨_, _, _, rfl⟩

theorem newton_b {a x P Q y M K : Nat} (hMB : B64 % M = 0) (hMK : M = K * K) (h : a * x % K = 1 % K) (hP : P = a * x % B64) (hQ : Q = (2 + B64 - P) % B64) (hy : y = x * Q % B64) : a * y % M = 1 % M := by
  obtain ⟨c, hc⟩ := Nat.dvd_of_mod_eq_zero hMB
  have hPl : P < B64 := by rw [hP]; exact Nat.mod_lt _ B64_pos
  have h1 : (Q + a * x) % B64 = 2 % B64 := by
    rw [Nat.add_mod, ← hP, hQ, Nat.mod_mod, Nat.mod_add_mod, show 2 + B64 - P + P = 2 + B64 by omega, Nat.add_mod_right]
  have h2 : (y + x * (a * x)) % B64 = 2 * x % B64 := by
    rw [hy, Nat.mod_add_mod, ← Nat.mul_add, Nat.mul_mod, h1, ← Nat.mul_mod, Nat.mul_comm]
  refine Pl.newton_step hMK h ?_
  have h3 := congrArg (· % M) h2
  simp only [hc, Nat.mod_mul_right_mod] at h3
  exact h3

theorem ninv_ok {inv m0 m : Nat} {X : Nat} (hm : m = m0 + B64 * X) (h : m0 * inv % B64 = 1 % B64) (hi : inv < B64) : ((B64 - inv) * m + 1) % B64 = 0 := by
  have e1 : (B64 - inv) * m + inv * m = B64 * m := by rw [← Nat.add_mul]; congr 1; omega
  have e2 : inv * m % B64 = 1 := by
    rw [hm, Nat.mul_add, Nat.mul_left_comm, Nat.add_mul_mod_self_left, Nat.mul_comm, h]; rfl
  have e3 : ((B64 - inv) * m + inv * m) % B64 = ((B64 - inv) * m + 1) % B64 := by
    rw [Nat.add_mod, e2, Nat.mod_add_mod]
  rw [← e3, e1, Nat.mul_mod_right]

set_option maxHeartbeats 4000000 in
set_option maxRecDepth 100000 in
theorem mnew_main {w : World} {S : Nat → Prop} {m : Nat} {v : Value} (ha : RawN.rep S w m [v]) (hl : m < B64 ^ 32) (ho : m % 2 = 1) (h3 : 3 ≤ m) :
    Calls Try.prog 53 #[v] w fun e w' => NewPost m w e w' ∧ Below w.heap.size w w' := by
  go_enter Try.func53, Try.ntmps53
  go_wp2_with fail
  refine (norm_calls ha).mono ?_
  rintro e w1 ⟨⟨u, rfl, ms, hms, hc, hv⟩, hb1⟩
  have dm := num_dig hms
  have hl32 := (Pl.canon_len_le (n := 32) B64_gt dm hc).2 (by rw [hv]; exact hl)
  have hpos : 0 < ms.length := by
    rcases Nat.eq_zero_or_pos ms.length with h | h
    · obtain rfl := List.eq_nil_of_length_eq_zero h
      rw [Pl.val_nil] at hv; omega
    · exact h
  have hv0 := Pl.val_drop B64 ms 0 hpos
  rw [List.drop_zero, hv] at hv0
  obtain ⟨A, cap, rfl, hcap, hcm⟩ := sl_open hms
  obtain ⟨b, o, rfl, hSb, hm0c, hm0b⟩ := num_at hms 0 hpos
  rw [Nat.add_zero] at hm0c
  obtain ⟨m0, hm0⟩ : ∃ m0, m0 = ms[0] := ⟨_, rfl⟩
  rw [← hm0] at hm0c hm0b hv0
  obtain ⟨X, hX⟩ : ∃ X, X = Pl.val B64 (ms.drop (0 + 1)) := ⟨_, rfl⟩
  rw [← hX] at hv0
  have hodd : m0 % 2 = 1 := by unfold B64 at hv0; omega
  have hsm : ms.length = 1 → 3 ≤ m0 := by
    intro h1
    have : X = 0 := by rw [hX, List.drop_of_length_le (by omega)]; rfl
    rw [this] at hv0; omega
  have q0 : ((ms.length : Int) == 0) = false := by rw [beq_eq_false_iff_ne]; omega
  have q1 : ((m0 : Int) % 2 == 0) = false := by rw [beq_eq_false_iff_ne]; omega
  have Hv := hid hv
  have Hv0 := hid hv0
  have Hodd := hid hodd
  have Ho := hid ho
  have Hsm := hid hsm
  clear hv hv0 hX hm0 hodd ho hsm
  go_upto_region 4 with (fail)
  go_cut [18] (fun c wc => c = .bool false ∧ wc = w1)
  case first =>
    by_cases h1 : ms.length = 1
    · have h2 := Hsm.out h1
      have q2 : ((ms.length : Int) == 1) = true := by rw [beq_iff_eq]; omega
      have H1 := hid h1
      clear h1
      go_wp2_with fail
      go_meet
      case rel => exact ⟨by simp; omega, rfl⟩
    · have q2 : ((ms.length : Int) == 1) = false := by rw [beq_eq_false_iff_ne]; omega
      clear h1
      go_wp2_with fail
      go_meet
      case rel => exact ⟨rfl, rfl⟩
  case rest =>
    obtain ⟨rfl, rfl⟩ := hcut
    go_wp2_with fail
    go_loop [41, 4] (fun kv iv => ∃ k inv : Nat, kv = .int .i64 (k : Int) ∧ iv = .int .u64 (inv : Int) ∧ k ≤ 6 ∧ inv < B64 ∧ Hid (m0 * inv % 2 ^ 2 ^ k = 1 % 2 ^ 2 ^ k)) (fun kv _ => 6 - (intOf kv).toNat)
    case atStart => exact ⟨0, 1, rfl, rfl, by omega, B64_gt, hid (by simpa using Hodd.out)⟩
    case round =>
      obtain ⟨k, inv, rfl, rfl, hk, hib, hinv⟩ := hrel
      by_cases hlt : k < 6
      · obtain ⟨P, hP⟩ : ∃ P, P = m0 * inv % B64 := ⟨_, rfl⟩
        obtain ⟨Q, hQ⟩ : ∃ Q, Q = (2 + B64 - P) % B64 := ⟨_, rfl⟩
        obtain ⟨y, hy⟩ : ∃ y, y = inv * Q % B64 := ⟨_, rfl⟩
        have hPb : P < B64 := by rw [hP]; exact Nat.mod_lt _ B64_pos
        have w1' : IntKind.u64.wrap ((m0 : Int) * (inv : Int)) = (P : Int) := by rw [hP]; exact u64_mod (by push_cast; rfl)
        have w2' : IntKind.u64.wrap ((2 : Int) - (P : Int)) = (Q : Int) := by
          rw [hQ]
          have e : ((2 + B64 - P : Nat) : Int) = (2 : Int) - (P : Int) + 18446744073709551616 := by unfold B64 at hPb ⊢; omega
          rw [u64_up, ← e]; exact u64_mod rfl
        have w3' : IntKind.u64.wrap ((inv : Int) * (Q : Int)) = (y : Int) := by rw [hy]; exact u64_mod (by push_cast; rfl)
        have hyb : y < B64 := by rw [hy]; exact Nat.mod_lt _ B64_pos
        have hn : Hid (m0 * y % 2 ^ 2 ^ (k + 1) = 1 % 2 ^ 2 ^ (k + 1)) := by
          refine newton_b (M := 2 ^ 2 ^ (k + 1)) ?_ ?_ hinv.out hP hQ hy
          · refine Nat.mod_eq_zero_of_dvd (Nat.pow_dvd_pow 2 (m := 2 ^ (k + 1)) (n := 64) ?_)
            exact Nat.pow_le_pow_right (n := 2) (by omega) (show k + 1 ≤ 6 by omega)
          · rw [← Nat.pow_add, ← Nat.two_mul, Nat.pow_succ, Nat.mul_comm 2]
        clear hinv hP hQ hy
        go_wp2_with fail
        go_round
        case rel => exact ⟨k + 1, y, by go_num, rfl, by omega, hyb, hn⟩
        case measure => simp [intOf]; omega
      · obtain rfl : k = 6 := by omega
        have e6 : 2 ^ 2 ^ 6 = B64 := by decide
        have hi := hinv.out
        rw [e6] at hi
        have hi0 : inv ≠ 0 := by
          intro h; subst h
          rw [Nat.mul_zero] at hi
          exact absurd hi (by decide)
        obtain ⟨ni, hni⟩ : ∃ ni, ni = B64 - inv := ⟨_, rfl⟩
        have hnb : ni < B64 := by omega
        have hnw : IntKind.u64.wrap (-(inv : Int)) = (ni : Int) := by
          have e : (ni : Int) = -(inv : Int) + 18446744073709551616 := by unfold B64 at *; omega
          rw [u64_up, ← e]
          exact u64_eq rfl (by unfold B64 at hnb; exact hnb)
        have hok := hid (ninv_ok Hv0.out hi hib)
        rw [← hni] at hok
        obtain ⟨n, hn⟩ : ∃ n, n = ms.length := ⟨_, rfl⟩
        have hmk : ∀ W : World, (Instr.makeSlice 24 (.int .i64 ((ms.length : Int) + 1)) (.int .i64 ((ms.length : Int) + 1))).run Try.prog W = .ok (.slice (some ⟨W.heap.size, 0, none⟩) (ms.length + 1) (ms.length + 1)) (W.alloc (.cells (zerosOf (.int .u64 0) (ms.length + 1)) 65)) := fun W => run_make_u64 (ms.length + 1) (by omega) W
        have hba := below_alloc (Below.refl wc.heap.size wc) (.cells #[.slice (some ⟨b, o, none⟩) ms.length cap, .int .u64 (ni : Int), .slice none 0 0] 76)
        have rowa := Row.new wc 76 #[.slice (some ⟨b, o, none⟩) ms.length cap, .int .u64 (ni : Int), .slice none 0 0]
        have rowb3 := row_newAt (wc.alloc (.cells #[.slice (some ⟨b, o, none⟩) ms.length cap, .int .u64 (ni : Int), .slice none 0 0] 76)) 65 ((zerosOf (.int .u64 0) (ms.length + 1)).setIfInBounds ms.length (.int .u64 1)) (wc.heap.size + 1) (by simp)
        rw [Array.toList_setIfInBounds, zerosOf_num, show Value.int .u64 1 = .int .u64 ((1 : Nat) : Int) from rfl, nums_set] at rowb3
        have rowa3 := rowa.alloc (.cells ((zerosOf (.int .u64 0) (ms.length + 1)).setIfInBounds ms.length (.int .u64 1)) 65)
        have hbc := below_alloc hba (.cells ((zerosOf (.int .u64 0) (ms.length + 1)).setIfInBounds ms.length (.int .u64 1)) 65)
        have cb0 : (zerosOf (.int .u64 0) (ms.length + 1))[ms.length]? = some (.int .u64 0) := by
          rw [← Array.getElem?_toList, zerosOf_toList]; simp
        have hhv : Pl.val B64 ((List.replicate (ms.length + 1) 0).set ms.length 1) = B64 ^ ms.length := by
          have h1 := Pl.val_take_set B64 (List.replicate (ms.length + 1) 0) ms.length 1 (by simp)
          rw [List.take_of_length_le (by simp), List.take_replicate, Pl.val_replicate] at h1
          omega
        have hhs := RawN.old (raw_of (rowb3.slNum (B := B64) (S := fun z => z = wc.heap.size + 1) rfl ((Pl.Dig.replicate B64_pos _).set _ B64_gt) (ms.length + 1) (by simp) (by omega) (by simp; omega)))
        rw [hhv] at hhs
        simp only [List.length_set, List.length_replicate] at hhs
        have hms2 := (Rep.num .u64 B64).sl.below hms hbc
        have hmN : NumN.rep (Fresh w wc) _ m [_] := ⟨ms, hms2, hc, Hv.out⟩
        have hmR := num_raw (NumN.old hmN)
        have hBlt : B64 ^ ms.length ≤ B64 ^ 32 := Nat.pow_le_pow_right B64_pos hl32
        have h264 := B32_2
        have hpp : 0 < B64 ^ ms.length := Nat.pow_pos B64_pos
        clear hi e6 hinv hni hn hhv
        go_wp2_with fail
        refine (div_ok hhs hmR (by omega) (by omega) (by omega)).mono ?_
        rintro e w3 ⟨⟨qv, h, rfl, _, hh⟩, hb3⟩
        have hb3' := below_trans hbc hb3
        have hmlt := Nat.mod_lt (B64 ^ ms.length) (show 0 < m by omega)
        have hhl : B64 ^ ms.length % m < B64 ^ 32 := by omega
        have hml := B32_mul hhl hhl
        have hmulE : mulE (B64 ^ ms.length % m) (B64 ^ ms.length % m) = .ok (B64 ^ ms.length % m * (B64 ^ ms.length % m)) := by unfold mulE; rw [if_neg (by omega)]
        have HmulE := hid hmulE
        clear hmulE
        go_wp2_with fail
        refine (mul_calls (num_raw hh) (num_raw hh)).mono ?_
        rintro e w4 ⟨he, hb4⟩
        rw [HmulE.out] at he
        obtain ⟨p, rfl, hp⟩ := he
        rw [errV_zero]
        have hb4' := below_trans hb3' hb4
        have hm4 := num_raw (NumN.old (NumN.below hmN (below_trans hb3 hb4)))
        go_wp2_with fail
        refine (div_ok (num_raw (NumN.old hp)) hm4 (by omega) (by omega) (by omega)).mono ?_
        rintro e w5 ⟨⟨qv2, r2, rfl, _, hr2⟩, hb5⟩
        have hb5' := below_trans hb4' hb5
        obtain ⟨A5, l5, c5, rfl⟩ := num_open hr2
        have rowa5 := rowa3.below (by simp; omega) (below_trans (below_trans hb3 hb4) hb5)
        have ca : w5.cell? ⟨wc.heap.size, 2, none⟩ = some (.slice none 0 0) := rowa5.cell 2 (by simp)
        have fa := rowa5.frozen 2
        have rowa6 := rowa5.set 2 (.slice A5 l5 c5)
        have hs3 := hb3.size
        have hs4 := hb4.size
        simp at hs3
        have hs5 := hb5.size
        have hs1 := hb1.size
        have hsame : Same (Fresh w wc) wc (w5.setCell ⟨wc.heap.size, 2, none⟩ (.slice A5 l5 c5)) := same_setCell (Same.mono (Same.of_below hb5') (fun z hz => hz.2)) (fun z hz e => by have := hz.2; have e' : z = wc.heap.size := e; omega) _
        have hms6 := NatS.mono hms (S' := Fresh w (w5.setCell ⟨wc.heap.size, 2, none⟩ (.slice A5 l5 c5))) (fun z hz => ⟨hz.1, by have := hz.2; simp; omega⟩) hsame
        have hr6 := NumN.mono hr2 (S' := Fresh w (w5.setCell ⟨wc.heap.size, 2, none⟩ (.slice A5 l5 c5))) (fun z hz => ⟨by have := hz.1; omega, by have := hz.2; simpa using this⟩) (same_setCell (a := ⟨wc.heap.size, 2, none⟩) (Same.refl _ _) (fun z hz e => by have := hz.1; have e' : z = wc.heap.size := e; omega) (.slice A5 l5 c5))
        have hinv6 := hok.out
        have hB6 : Below w.heap.size w (w5.setCell ⟨wc.heap.size, 2, none⟩ (.slice A5 l5 c5)) := below_setCell (below_trans hb1 hb5') (by show _ ≤ wc.heap.size; omega) _
        have hres : ModP.rep (Fresh w (w5.setCell ⟨wc.heap.size, 2, none⟩ (.slice A5 l5 c5))) (w5.setCell ⟨wc.heap.size, 2, none⟩ (.slice A5 l5 c5)) m [.pointer (some ⟨wc.heap.size, 0, none⟩)] := by
          refine ⟨(ms, ni, _), ⟨wc.heap.size, _, rfl, ⟨hs1, rowa6.lt⟩, rowa6.lt, rowa6, [_], _, rfl, hms6, [_], _, rfl, ⟨rfl, hnb⟩, hr6⟩, ⟨hc, Hv.out, Ho.out, h3, hl32, hinv6, ?_⟩⟩
          show _ = _
          rw [← Nat.mul_mod]
        clear hinv6
        go_wp2_with fail
        go_ret2
        refine ⟨?_, hB6⟩
        unfold NewPost
        rw [if_neg (by omega), if_neg (by have := Ho.out; omega)]
        exact ⟨_, rfl, hres⟩

set_option maxHeartbeats 2000000 in
theorem mnew_calls {w : World} {S : Nat → Prop} {m : Nat} {v : Value} (ha : RawN.rep S w m [v]) :
    Calls Try.prog 53 #[v] w fun e w' => NewPost m w e w' ∧ Below w.heap.size w w' := by
  by_cases hl : B64 ^ 32 ≤ m
  · go_enter Try.func53, Try.ntmps53
    go_wp2_with fail
    refine (norm_calls ha).mono ?_
    rintro e w1 ⟨⟨u, rfl, ms, hms, hc, hv⟩, hb1⟩
    have hl32 : ¬ ms.length ≤ 32 := by
      rw [Pl.canon_len_le (n := 32) B64_gt (num_dig hms) hc, hv]; omega
    obtain ⟨A, cap, rfl, hcap, hcm⟩ := sl_open hms
    clear hms hc hv
    go_wp2
    go_ret2
    exact ⟨by unfold NewPost; rw [if_pos hl]; rfl, hb1⟩
  by_cases hbad : m % 2 = 0 ∨ m < 3
  · go_enter Try.func53, Try.ntmps53
    go_wp2_with fail
    refine (norm_calls ha).mono ?_
    rintro e w1 ⟨⟨u, rfl, ms, hms, hc, hv⟩, hb1⟩
    have hl32 := (Pl.canon_len_le (n := 32) B64_gt (num_dig hms) hc).2 (by rw [hv]; omega)
    have hpost : NewPost m w (.returned (.tuple #[.pointer none, errV 5])) w1 := by unfold NewPost; rw [if_neg hl, if_pos hbad]
    obtain ⟨A, cap, rfl, hcap, hcm⟩ := sl_open hms
    rcases Nat.eq_zero_or_pos ms.length with h0 | hpos
    · have q0 : ((ms.length : Int) == 0) = true := by rw [beq_iff_eq]; omega
      have H0 := hid h0
      clear h0 hms hc hv hbad
      go_wp2
      go_ret2
      exact ⟨hpost, hb1⟩
    · have hv0 := Pl.val_drop B64 ms 0 hpos
      rw [List.drop_zero, hv] at hv0
      obtain ⟨b, o, rfl, hSb, hm0c, hm0b⟩ := num_at hms 0 hpos
      rw [Nat.add_zero] at hm0c
      have h1 : ms.length = 1 → m = ms[0] := by
        intro h1
        rw [hv0, List.drop_of_length_le (by omega)]; simp [Pl.val]
      have h2 : 1 < ms.length → B64 ≤ m := by
        intro h2
        rw [← hv]
        have := hc.ge (B := B64) hpos
        have h3 : B64 ^ 1 ≤ B64 ^ (ms.length - 1) := Nat.pow_le_pow_right B64_pos (by omega)
        rw [Nat.pow_one] at h3
        omega
      obtain ⟨m0, hm0⟩ : ∃ m0, m0 = ms[0] := ⟨_, rfl⟩
      rw [← hm0] at hm0c hm0b hv0 h1
      have q0 : ((ms.length : Int) == 0) = false := by rw [beq_eq_false_iff_ne]; omega
      by_cases hev : m0 % 2 = 0
      · have q1 : ((m0 : Int) % 2 == 0) = true := by rw [beq_iff_eq]; omega
        have Hev := hid hev
        clear hev hms hc hv hbad hv0 h1 h2 hm0
        go_wp2
        go_ret2
        exact ⟨hpost, hb1⟩
      · have q1 : ((m0 : Int) % 2 == 0) = false := by rw [beq_eq_false_iff_ne]; omega
        have hb3 : m < 3 := by
          rcases hbad with h | h
          · unfold B64 at hv0; omega
          · exact h
        have h11 : ms.length = 1 := by
          rcases Nat.lt_or_ge 1 ms.length with h | h
          · have := h2 h; unfold B64 at this; omega
          · omega
        have hm3 : (m0 : Int) < 3 := by have := h1 h11; omega
        have q2 : ((ms.length : Int) == 1) = true := by rw [beq_iff_eq]; omega
        have H11 := hid h11
        clear hev hms hc hv hbad hv0 h1 h2 hm0 h11
        go_wp2
        go_ret2
        exact ⟨hpost, hb1⟩
  · exact mnew_main ha (by omega) (by omega) (by omega)

end Go.Proofs.Ytphbacggmhjmgaa

/- The layer mont, seventh part: powers, four bits at a time. -/
namespace Go.Proofs.Ytphbacggmhjmgaa
open Go.RowKit

def modExpE (m a e : Nat) : Except Nat Nat := if B64 ^ 64 ≤ a ∨ B64 ^ 64 ≤ e then .error 2 else .ok (a ^ e % m)

/-- the powers that are made ahead: the first k of them -/
def Tab (n m x R tb k : Nat) (cs : List Value) (wr : World) : Prop :=
  cs.length = 16 ∧ Row wr tb 102 cs ∧ (∀ i, i < k → ∃ A l c, cs[i]? = some (.slice A l c) ∧ (WideN n).rep (fun b => b ≠ tb ∧ b < wr.heap.size) wr (x ^ i * R % m) [.slice A l c]) ∧ ∀ i, i < 16 → ∃ A l c, cs[i]? = some (.slice A l c)

theorem Tab.below {n m x R tb k : Nat} {cs : List Value} {w w' : World} (h : Tab n m x R tb k cs w) (hb : Below w.heap.size w w') : Tab n m x R tb k cs w' := by
  obtain ⟨h1, h2, h3, h4⟩ := h
  refine ⟨h1, h2.below h2.lt hb, fun i hi => ?_, h4⟩
  obtain ⟨A, l, c, e, hr⟩ := h3 i hi
  exact ⟨A, l, c, e, (WideN n).mono hr (fun b hb' => ⟨hb'.1, Nat.lt_of_lt_of_le hb'.2 hb.size⟩) (fun b hb' => hb.block b hb'.2)⟩
theorem Tab.cell {n m x R tb k : Nat} {cs : List Value} {w : World} (h : Tab n m x R tb k cs w) (i : Nat) (hi : i < k) (hi2 : i < 16) :
    ∃ A l c, w.cell? ⟨tb, i, none⟩ = some (.slice A l c) ∧ (WideN n).rep (· < w.heap.size) w (x ^ i * R % m) [.slice A l c] := by
  obtain ⟨h1, h2, h3, h4⟩ := h
  obtain ⟨A, l, c, e, hr⟩ := h3 i hi
  refine ⟨A, l, c, ?_, (WideN n).old hr⟩
  have h5 := h2.cell i (by omega)
  rw [List.getElem?_eq_getElem (by omega)] at e
  rw [h5, e]
theorem Tab.put {n m x R tb k : Nat} {cs : List Value} {w : World} (h : Tab n m x R tb k cs w) (hk : k < 16) {S : Nat → Prop} {A : Option Addr} {l c : Nat} (hr : (WideN n).rep S w (x ^ k * R % m) [.slice A l c]) (hS : ∀ b, S b → b ≠ tb) :
    Tab n m x R tb (k + 1) (cs.set k (.slice A l c)) (w.setCell ⟨tb, k, none⟩ (.slice A l c)) := by
  obtain ⟨h1, h2, h3, h4⟩ := h
  have hsame : Same (fun b => b ≠ tb ∧ b < w.heap.size) w (w.setCell ⟨tb, k, none⟩ (.slice A l c)) := same_setCell (Same.refl _ _) (fun b hb => hb.1) _
  refine ⟨by simpa using h1, h2.set k _, fun i hi => ?_, fun i hi => ?_⟩
  · by_cases e : i = k
    · subst e
      exact ⟨A, l, c, by rw [List.getElem?_set_self (by omega)], (WideN n).mono ((WideN n).live hr) (fun b hb => ⟨hS b hb.1, by simpa using hb.2⟩) (Same.mono hsame (fun b hb => ⟨hS b hb.1, hb.2⟩))⟩
    · obtain ⟨A', l', c', e', hr'⟩ := h3 i (by omega)
      exact ⟨A', l', c', by rw [List.getElem?_set_ne (by omega)]; exact e', (WideN n).mono hr' (fun b hb => ⟨hb.1, by simpa using hb.2⟩) hsame⟩
  · by_cases e : i = k
    · subst e
      exact ⟨A, l, c, by rw [List.getElem?_set_self (by omega)]⟩
    · obtain ⟨A', l', c', e'⟩ := h4 i hi
      exact ⟨A', l', c', by rw [List.getElem?_set_ne (by omega)]; exact e'⟩

theorem wide_open {S : Nat → Prop} {w : World} {n x : Nat} {v : Value} (h : (WideN n).rep S w x [v]) : ∃ A l c, v = .slice A l c := by
  obtain ⟨xs, hx, _⟩ := h
  obtain ⟨A, c, rfl, _⟩ := sl_open hx
  exact ⟨_, _, _, rfl⟩

theorem tab_first {n m x R : Nat} {w : World} {A : Option Addr} {l c : Nat} (h : (WideN n).rep (· < w.heap.size) w (x ^ 0 * R % m) [.slice A l c]) :
    Tab n m x R w.heap.size 1 (.slice A l c :: List.replicate 15 (.slice none 0 0)) (w.alloc (.cells #[.slice A l c, .slice none 0 0, .slice none 0 0, .slice none 0 0, .slice none 0 0, .slice none 0 0, .slice none 0 0, .slice none 0 0, .slice none 0 0, .slice none 0 0, .slice none 0 0, .slice none 0 0, .slice none 0 0, .slice none 0 0, .slice none 0 0, .slice none 0 0] 102)) := by
  refine ⟨rfl, Row.new w _ _, fun i hi => ?_, fun i hi => ?_⟩
  · obtain rfl : i = 0 := by omega
    exact ⟨A, l, c, rfl, (WideN n).mono h (fun b hb => ⟨by omega, by simp; omega⟩) (Same.of_below (below_alloc (Below.refl _ _) _))⟩
  · cases i with
    | zero => exact ⟨A, l, c, rfl⟩
    | succ i => exact ⟨none, 0, 0, by rw [List.getElem?_cons_succ, List.getElem?_replicate, if_pos (by omega)]⟩

/-- one bit more of an exponent -/
theorem bit_more' (e I c : Nat) (hc : c < I) : e / 2 ^ (I - (c + 1)) = 2 * (e / 2 ^ (I - c)) + (e.testBit (I - (c + 1))).toNat := by
  have h1 : 2 ^ (I - c) = 2 ^ (I - (c + 1)) * 2 := by rw [← Nat.pow_succ]; congr 1; omega
  rw [h1, ← Nat.div_div_eq_div_mul, Nat.testBit_eq_decide_div_mod_eq]
  generalize e / 2 ^ (I - (c + 1)) = y
  by_cases h : y % 2 = 1
  · simp [h]; omega
  · simp [h]; omega

theorem rep_up {α : Type} {r : Rep α} {w w' : World} {x : α} {cs : List Value} (h : r.rep (· < w.heap.size) w x cs) (hb : Below w.heap.size w w') : r.rep (· < w'.heap.size) w' x cs := r.old (r.below h hb)

/-- what a power's reckoning holds throughout -/
structure ExpKit (W : World) (m n x e R : Nat) (v one base ve : Value) : Prop where
  mod : ModP.rep (· < W.heap.size) W m [v]
  one : (WideN n).rep (· < W.heap.size) W 1 [one]
  base : (WideN n).rep (· < W.heap.size) W (x * R % m) [base]
  exp : RawN.rep (· < W.heap.size) W e [ve]
theorem ExpKit.below {W W' : World} {m n x e R : Nat} {v one base ve : Value} (h : ExpKit W m n x e R v one base ve) (hb : Below W.heap.size W W') : ExpKit W' m n x e R v one base ve :=
  ⟨rep_up h.mod hb, rep_up h.one hb, rep_up h.base hb, rep_up h.exp hb⟩

theorem lit_one (w : World) : NumN.rep (· < (w.alloc (.cells #[.int .u64 1] 65)).heap.size) (w.alloc (.cells #[.int .u64 1] 65)) 1 [.slice (some ⟨w.heap.size, 0, none⟩) 1 1] := by
  have h := lit1 w 1 B64_gt
  exact ⟨[1], NatS.mono h (by rintro b rfl; simp) (Same.refl _ _), by simp [Pl.Canon], Pl.val_one _ _⟩

theorem two_pow64 (n k l : Nat) (hl : l = 64 * k) (h : n < B64 ^ k) : n < 2 ^ l := by
  subst hl; rw [show B64 = 2 ^ 64 from rfl, ← Nat.pow_mul] at h; exact h
theorem bitLen_bound {e : Nat} (h : e < B64 ^ 64) : bitLen e ≤ 4096 := by
  rw [bitLen_le_iff]
  exact two_pow64 e 64 4096 rfl h

set_option maxHeartbeats 8000000 in
set_option maxRecDepth 100000 in
theorem mexp_main {w : World} {S T : Nat → Prop} {m a ex : Nat} {v va vb : Value} (hM : ModP.rep S w m [v]) (ha : RawN.rep T w a [va]) (hb : RawN.rep T w ex [vb]) (hal : a < B64 ^ 64) (hbl : ex < B64 ^ 64) :
    Calls Try.prog 46 #[v, va, vb] w fun e w' => NumE (Fresh w w') w' e (.ok (a ^ ex % m)) ∧ Below w.heap.size w w' := by
  go_enter Try.func46, Try.ntmps46
  go_wp2_with fail
  refine (pair_ok hM ha hb hal hbl).mono ?_
  rintro e w1 ⟨⟨x, y, rfl, hx, _⟩, hb1⟩
  have hM1 := ModP.old (ModP.below hM hb1)
  obtain ⟨g, A, cap, inv, tv, ms, rfl, hg, c0, c1, c2, hms, hinv, htv, hcap, hcm, hpos, hok⟩ := mod_open hM1
  have hm0 := hok.big
  have hxm := Nat.mod_lt a (show 0 < m by omega)
  have htm := Nat.mod_lt (B64 ^ ms.length * B64 ^ ms.length) (show 0 < m by omega)
  have hri := Pl.rinv_spec (n := ms.length) hok.odd (by omega)
  have hn : Hid (ms.length = limbs m) := mod_limbs (num_dig hms) hok
  obtain ⟨n, hnn⟩ : ∃ n, n = ms.length := ⟨_, rfl⟩
  rw [← hnn] at hn htv htm hri
  obtain ⟨R, hR⟩ : ∃ R, R = B64 ^ n := ⟨_, rfl⟩
  have hri : R * Pl.rinv m n % m = 1 := by rw [hR]; exact hri
  rw [← hR] at htv htm
  obtain ⟨X, hX⟩ : ∃ X, X = a % m := ⟨_, rfl⟩
  rw [← hX] at hx hxm
  have hfin : Hid (a ^ ex % m = X ^ ex % m) := by show _ = _; rw [hX, ← Nat.pow_mod]
  obtain ⟨Z, hZ⟩ : ∃ Z, Z = R * R % m := ⟨_, rfl⟩
  rw [← hZ] at htv htm
  have Hri := hid hri
  have HZ := hid hZ
  have hexp := RawN.old (RawN.below hb hb1)
  have hx1 := NumN.old hx
  clear hri hZ hX hR hnn hms hcap hpos hM ha hb hx
  have hba := below_alloc (Below.refl w1.heap.size w1) (.cells #[.int .u64 1] 65)
  have hone := lit_one w1
  have h1m : 1 < m := by omega
  go_wp2_with fail
  refine (wide_num hn (rep_up hM1 hba) hone h1m).mono ?_
  rintro e w2 ⟨⟨one, rfl, hu1⟩, hb2⟩
  have hb2' := below_trans hba hb2
  have hM2 := rep_drew _ (rep_up hM1 hb2')
  have hx2 := rep_drew _ (rep_up hx1 hb2')
  have ht2 := rep_drew _ (rep_up htv hb2')
  have hu1' := rep_drew _ ((WideN n).old hu1)
  have he2 := rep_drew _ (rep_up hexp hb2')
  have k2 := (hb2'.cell (p := ⟨g, 2, none⟩) hg).trans c2
  have hgd : g < w2.drew.heap.size := by have := hb2'.size; show g < w2.heap.size; omega
  have hb2d : Below w.heap.size w w2.drew := (below_trans (below_trans hb1 hb2') (below_drew w2))
  have hp1 := Nat.mod_lt (X * Z * Pl.rinv m n) (show 0 < m by omega)
  have hp2 := Nat.mod_lt (1 * Z * Pl.rinv m n) (show 0 < m by omega)
  clear hba hone hu1 hb2 hb2' hM1 hx1 htv hexp
  go_wp2_with fail
  go_region_held3 (fun w' => w'.cell? ⟨g, 2, none⟩ = some tv) (first | exact k2 | exact k3 | exact k4 | exact k5)
    (first
    | (go_at_call 68
       with_reducible refine (wide_num hn hM2 hx2 hxm).mono ?_
       rintro e w3 ⟨⟨u3, rfl, hu3⟩, hb3⟩
       have k3 := (hb3.cell (p := ⟨g, 2, none⟩) hgd).trans k2)
    | (go_at_call 68
       with_reducible refine (wide_num hn (ModP.below hM2 hb3) (NumN.below ht2 hb3) htm).mono ?_
       rintro e w4 ⟨⟨u4, rfl, hu4⟩, hb4⟩
       have hb4' := below_trans hb3 hb4
       have k4 := (hb4'.cell (p := ⟨g, 2, none⟩) hgd).trans k2)
    | (go_at_call 69
       with_reducible refine (product_calls n hn (ModP.below hM2 hb4') ((WideN n).old ((WideN n).below hu3 hb4)) ((WideN n).old hu4) hxm).mono ?_
       rintro e w5 ⟨⟨base, rfl, hu5⟩, hb5⟩
       have hb5' := below_trans hb4' hb5
       have k5 := (hb5'.cell (p := ⟨g, 2, none⟩) hgd).trans k2)
    | fail)
  rw [HZ.out, Pl.mont_in Hri.out] at hu5
  have kit5 : ExpKit w5 m n X ex R (.pointer (some ⟨g, 0, none⟩)) one base vb := ⟨rep_up hM2 hb5', rep_up hu1' hb5', (WideN n).old hu5, rep_up he2 hb5'⟩
  have ht5 := rep_up ht2 hb5'
  have hw5 := below_trans hb2d hb5'
  clear hM2 hx2 ht2 hu1' he2 hb3 hb4 hb5 hb4' hb5' hu3 hu4 hu5 k2 k3 k4 hb2d
  go_wp2_with fail
  refine (wide_num hn kit5.mod ht5 htm).mono ?_
  rintro e w6 ⟨⟨wt, rfl, hwt⟩, hb6⟩
  have kit6 := kit5.below hb6
  have hw6 := below_trans hw5 hb6
  go_wp2_with fail
  refine (product_calls n hn kit6.mod kit6.one ((WideN n).old hwt) h1m).mono ?_
  rintro e w7 ⟨⟨out, rfl, hout⟩, hb7⟩
  have kit7 := kit6.below hb7
  have hw7 := below_trans hw6 hb7
  have hout' : (WideN n).rep (· < w7.heap.size) w7 (X ^ 0 * R % m) [out] := by
    have := (WideN n).old hout
    rw [HZ.out, Pl.mont_in Hri.out] at this
    simpa using this
  obtain ⟨oA, ol, oc, rfl⟩ := wide_open hout'
  have hb8 := below_alloc (Below.refl w7.heap.size w7) (.cells #[.slice oA ol oc, .slice none 0 0, .slice none 0 0, .slice none 0 0, .slice none 0 0, .slice none 0 0, .slice none 0 0, .slice none 0 0, .slice none 0 0, .slice none 0 0, .slice none 0 0, .slice none 0 0, .slice none 0 0, .slice none 0 0, .slice none 0 0, .slice none 0 0] 102)
  have htab := tab_first hout'
  clear hout hwt hb6 hb7 kit5 kit6 ht5 hw5 hw6 k5
  go_wp2_with fail
  obtain ⟨tb, htb⟩ : ∃ tb, tb = w7.heap.size := ⟨_, rfl⟩
  rw [← htb] at htab ⊢
  have htb2 : w7.heap.size ≤ tb := by omega
  have hoS : ∀ b, b < w7.heap.size → b ≠ tb := by intro b hb; omega
  clear htb
  go_loopw [15] (fun iv wr => ∃ (k : Nat) (cs : List Value), iv = .int .i64 (k : Int) ∧ 1 ≤ k ∧ k ≤ 16 ∧ Tab n m X R tb k cs wr ∧ Below w7.heap.size w7 wr) (fun iv _ => 16 - (intOf iv).toNat)
  case atStart => exact ⟨1, _, rfl, by omega, by omega, htab, hb8⟩
  case round =>
    clear htab hb8
    obtain ⟨k, cs, rfl, hk1, hk16, htab, hB⟩ := hrel
    obtain ⟨wo, rfl⟩ : ∃ wo : World, wo = wr := ⟨_, rfl⟩
    have kito := kit7.below hB
    by_cases hlt : k < 16
    · obtain ⟨j, rfl⟩ : ∃ j, k = j + 1 := ⟨k - 1, by omega⟩
      obtain ⟨A1, l1, d1, hcell, hrep⟩ := htab.cell j (by omega) (by omega)
      have hpl := Nat.mod_lt (X ^ j * R) (show 0 < m by omega)
      go_wp2_with fail
      refine (product_calls n hn kito.mod hrep kito.base hpl).mono ?_
      rintro e w8 ⟨⟨u, rfl, hu⟩, hb8⟩
      rw [Pl.mont_mid Hri.out, ← Nat.pow_succ] at hu
      obtain ⟨uA, ul, uc, rfl⟩ := wide_open hu
      have htab8 := htab.below hb8
      obtain ⟨A2, l2, d2, hc2⟩ := htab8.2.2.2 (j + 1) hlt
      have hc3 : w8.cell? ⟨tb, j + 1, none⟩ = some (.slice A2 l2 d2) := by
        have h5 := htab8.2.1.cell (j + 1) (by rw [htab8.1]; exact hlt)
        rw [List.getElem?_eq_getElem (by rw [htab8.1]; exact hlt)] at hc2
        rw [h5, hc2]
      have hf3 := htab8.2.1.frozen (j + 1)
      have hput := htab8.put hlt hu (fun b hb e => by have h1 := hb.1; have h2 := htab.2.1.lt; omega)
      have hB8 := below_setCell (below_trans hB hb8) (p := ⟨tb, j + 1, none⟩) htb2 (.slice uA ul uc)
      clear hcell hrep hu htab8 hc2 kito
      go_wp2_with fail
      go_roundw
      case rel => exact ⟨j + 2, _, by go_num, by omega, by omega, hput, hB8⟩
      case measure => simp [intOf] <;> omega
    · obtain rfl : k = 16 := by omega
      have htabo := htab
      have hwo := below_trans hw7 hB
      have houto := rep_up hout' hB
      have hbl2 := bitLen_bound hbl
      clear kit7 hw7 hout' hB htab hoS
      go_wp2_with fail
      refine (nbits_calls kito.exp (by omega)).mono ?_
      rintro e w9 ⟨rfl, rfl⟩
      go_wp2_with fail
      go_loopw [13, 16] (fun ov iv wr => ∃ (I : Nat), iv = .int .i64 (I : Int) ∧ Hid (I % 4 = 0) ∧ I ≤ 4100 ∧ (WideN n).rep (· < wr.heap.size) wr (X ^ (ex / 2 ^ I) * R % m) [ov] ∧ Below wo.heap.size wo wr) (fun _ iv _ => (intOf iv).toNat)
      case atStart =>
        refine ⟨(bitLen ex + 3) / 4 * 4, by congr 1 <;> omega, hid (by omega), by omega, ?_, Below.refl _ _⟩
        rw [Nat.div_eq_of_lt (Nat.lt_of_lt_of_le (bitLen_spec ex).1 (Nat.pow_le_pow_right (by omega) (by omega)))]
        exact houto
      case round =>
        clear houto
        obtain ⟨I, rfl, hI4, hI, hout, hB⟩ := hrel
        obtain ⟨wp, rfl⟩ : ∃ wp : World, wp = wr := ⟨_, rfl⟩
        by_cases hlt : 0 < I
        · have hI5 : 4 ≤ I := by have := hI4.out; omega
          go_wp2_with fail
          go_loopw [13, 17, 18] (fun ov kv jv wr => ∃ (c kk E : Nat), jv = .int .i64 (c : Int) ∧ kv = .int .i64 (kk : Int) ∧ 1 ≤ c ∧ c ≤ 5 ∧ kk ≤ 15 ∧ Hid (kk < 2 ^ (c - 1)) ∧ Hid (ex / 2 ^ (I - (c - 1)) = E + kk) ∧ Hid (E = ex / 2 ^ I * 2 ^ (c - 1)) ∧ (WideN n).rep (· < wr.heap.size) wr (X ^ E * R % m) [ov] ∧ Below wo.heap.size wo wr) (fun _ _ jv _ => 5 - (intOf jv).toNat)
          case atStart => exact ⟨1, 0, ex / 2 ^ I, rfl, rfl, by omega, by omega, by omega, hid (by simp), hid (by simp), hid (by simp), hout, hB⟩
          case round =>
            clear hout hB
            obtain ⟨c, kk, E, rfl, rfl, hc1, hc5, hkk, hkc, hq, hE, hout, hB⟩ := hrel
            obtain ⟨wq, rfl⟩ : ∃ wq : World, wq = wr := ⟨_, rfl⟩
            have kitq := kito.below hB
            have hpl := Nat.mod_lt (X ^ E * R) (show 0 < m by omega)
            by_cases hlc : c ≤ 4
            · obtain ⟨d, rfl⟩ : ∃ d, c = d + 1 := ⟨c - 1, by omega⟩
              have hkc' := hkc.out
              have hq' := hq.out
              have hE' := hE.out
              rw [Nat.add_sub_cancel] at hkc' hq' hE'
              have hkk7 : kk ≤ 7 := by
                have : 2 ^ d ≤ 2 ^ 3 := Nat.pow_le_pow_right (by omega) (by omega)
                omega
              have hbit := bit_more' ex I d (by omega)
              rw [hq'] at hbit
              have hI9 : (I : Int) - ((d : Int) + 1) = ((I - (d + 1) : Nat) : Int) := by omega
              have HI9 := hid hI9
              have Hkc := hid hkc'
              have HE' := hid hE'
              have Hbit := hid hbit
              clear hkc hq hE hkc' hq' hE' hbit hI9
              go_wp2_with fail
              refine (product_calls n hn kitq.mod hout hout hpl).mono ?_
              rintro e w8 ⟨⟨u, rfl, hu⟩, hb8⟩
              rw [Pl.mont_mid Hri.out, ← Nat.pow_add] at hu
              have kit8 := kitq.below hb8
              have hB8 := below_trans hB hb8
              have hu8 := (WideN n).old hu
              go_wp2_with fail
              rw [HI9.out]
              refine (nbit_calls kit8.exp (I - (d + 1)) (by omega)).mono ?_
              rintro e w9 ⟨rfl, rfl⟩
              cases hbb : ex.testBit (I - (d + 1))
              · have hbz := Hbit.out
                rw [hbb] at hbz
                have Hn1 : Hid (kk * 2 < 2 ^ (d + 2 - 1)) := by have := Hkc.out; show _ < _; rw [show d + 2 - 1 = d + 1 from rfl, Nat.pow_succ]; omega
                have Hn2 : Hid (ex / 2 ^ (I - (d + 2 - 1)) = (E + E) + kk * 2) := by show _ = _; rw [show d + 2 - 1 = d + 1 from rfl, hbz]; simp; omega
                have Hn3 : Hid (E + E = ex / 2 ^ I * 2 ^ (d + 2 - 1)) := by have := HE'.out; show _ = _; rw [show d + 2 - 1 = d + 1 from rfl, Nat.pow_succ, ← Nat.mul_assoc, ← this]; omega
                clear hbz
                go_wp2_with fail
                go_roundw
                case rel => exact ⟨d + 2, kk * 2, E + E, by go_num, by go_num, by omega, by omega, by omega, Hn1, Hn2, Hn3, hu8, hB8⟩
                case measure => simp [intOf] <;> omega
              · have hbz := Hbit.out
                rw [hbb] at hbz
                have Hn1 : Hid (kk * 2 + 1 < 2 ^ (d + 2 - 1)) := by have := Hkc.out; show _ < _; rw [show d + 2 - 1 = d + 1 from rfl, Nat.pow_succ]; omega
                have Hn2 : Hid (ex / 2 ^ (I - (d + 2 - 1)) = (E + E) + (kk * 2 + 1)) := by show _ = _; rw [show d + 2 - 1 = d + 1 from rfl, hbz]; simp; omega
                have Hn3 : Hid (E + E = ex / 2 ^ I * 2 ^ (d + 2 - 1)) := by have := HE'.out; show _ = _; rw [show d + 2 - 1 = d + 1 from rfl, Nat.pow_succ, ← Nat.mul_assoc, ← this]; omega
                clear hbz
                go_wp2_with fail
                go_roundw
                case rel => exact ⟨d + 2, kk * 2 + 1, E + E, by go_num, by go_num, by omega, by omega, by omega, Hn1, Hn2, Hn3, hu8, hB8⟩
                case measure => simp [intOf] <;> omega
            · obtain rfl : c = 5 := by omega
              have hq' := hq.out
              rw [show I - (5 - 1) = I - 4 from rfl] at hq'
              have Hq := hid hq'
              have Hi1 : Hid ((I - 4) % 4 = 0) := by have := hI4.out; show _ = _; omega
              clear hq' hkc hq hE
              by_cases hk0 : kk = 0
              · have Hr : Hid (E = ex / 2 ^ (I - 4)) := by have := Hq.out; show _ = _; omega
                rw [Hr.out] at hout
                subst hk0
                go_wp2_with fail
                go_roundw
                case rel => exact ⟨I - 4, by congr 1 <;> omega, Hi1, by omega, hout, hB⟩
                case measure => simp [intOf] <;> omega
              · obtain ⟨A1, l1, d1, hcell, hrep⟩ := (htabo.below hB).cell kk (by omega) (by omega)
                have hk1 : (0 : Int) < (kk : Int) := by omega
                clear hk0
                go_wp2_with fail
                refine (product_calls n hn kitq.mod hout hrep hpl).mono ?_
                rintro e w8 ⟨⟨u, rfl, hu⟩, hb8⟩
                rw [Pl.mont_mid Hri.out, ← Nat.pow_add, ← Hq.out] at hu
                have hB8 := below_trans hB hb8
                have hu8 := (WideN n).old hu
                go_wp2_with fail
                go_roundw
                case rel => exact ⟨I - 4, by congr 1 <;> omega, Hi1, by omega, hu8, hB8⟩
                case measure => simp [intOf] <;> omega
        · obtain rfl : I = 0 := by omega
          rw [Nat.pow_zero, Nat.div_one] at hout
          have kitp := kito.below hB
          have hpl := Nat.mod_lt (X ^ ex * R) (show 0 < m by omega)
          have hwp := below_trans hwo hB
          clear kito htabo
          go_wp2_with fail
          refine (product_calls n hn kitp.mod hout kitp.one hpl).mono ?_
          rintro e w8 ⟨⟨u, rfl, hu⟩, hb8⟩
          rw [Pl.mont_out Hri.out, Nat.mul_one, ← hfin.out] at hu
          go_wp2_with fail
          refine (norm_calls (wide_raw hu)).mono ?_
          rintro e w9 ⟨⟨r, rfl, hr⟩, hb9⟩
          go_wp2_with fail
          go_ret2
          have hw8 := below_trans hwp hb8
          exact ⟨⟨_, rfl, NumN.mono hr (Fresh.mono hw8.size (Nat.le_refl _)) (Same.refl _ _)⟩, below_trans hw8 hb9⟩

theorem mexp_calls {w : World} {S T : Nat → Prop} {m a ex : Nat} {v va vb : Value} (hM : ModP.rep S w m [v]) (ha : RawN.rep T w a [va]) (hb : RawN.rep T w ex [vb]) :
    Calls Try.prog 46 #[v, va, vb] w fun e w' => NumE (Fresh w w') w' e (modExpE m a ex) ∧ Below w.heap.size w w' := by
  by_cases hl : B64 ^ 64 ≤ a ∨ B64 ^ 64 ≤ ex
  · rw [show modExpE m a ex = .error 2 by unfold modExpE; rw [if_pos hl]]
    go_enter Try.func46, Try.ntmps46
    go_wp2_with fail
    refine (pair_long hM ha hb hl).mono ?_
    rintro e w1 ⟨rfl, hb1⟩
    go_wp2
    go_ret2
    exact ⟨rfl, hb1⟩
  · rw [show modExpE m a ex = .ok (a ^ ex % m) by unfold modExpE; rw [if_neg hl]]
    exact mexp_main hM ha hb (by omega) (by omega)

end Go.Proofs.Ytphbacggmhjmgaa

/- The layer mont, eighth part: what makes 1 of a number. -/
namespace Go.Proofs.Ytphbacggmhjmgaa
open Go.RowKit

/-- what mont.Mod.Inverse answers -/
def InvPost (m a : Nat) (w : World) (e : Ending) (w' : World) : Prop :=
  if B64 ^ 64 ≤ a then e = .returned (.tuple #[.slice none 0 0, errV 2])
  else if Nat.gcd m (a % m) ≠ 1 then e = .returned (.tuple #[.slice none 0 0, errV 6])
  else ∃ y u, e = .returned (.tuple #[u, .nilIface]) ∧ NumN.rep (Fresh w w') w' y [u] ∧ y < m ∧ y * a % m = 1

/-- so many times x, up to the modulus -/
def Times (m x s u : Nat) : Prop := ∃ k : Int, (s : Int) * x = u + m * k
theorem times_step {m x s t u v q p nx : Nat} (hm : 0 < m) (hs : Times m x s u) (ht : Times m x t v) (hq : q = u / v) (hp : p = q * t % m) (hn : nx = (s % m + m - p % m) % m) : Times m x nx (u % v) := by
  obtain ⟨k1, h1⟩ := hs
  obtain ⟨k2, h2⟩ := ht
  have e1 : (u : Int) = v * q + (u % v : Nat) := by rw [hq]; exact_mod_cast (Nat.div_add_mod u v).symm
  obtain ⟨k3, h3⟩ : ∃ k : Int, (p : Int) = q * t + m * k := by
    refine ⟨-((q * t / m : Nat) : Int), ?_⟩
    have := Nat.div_add_mod (q * t) m
    rw [← hp] at this
    have h : ((m * (q * t / m) + p : Nat) : Int) = ((q * t : Nat) : Int) := by exact_mod_cast this
    push_cast at h ⊢
    rw [Int.mul_neg]; omega
  obtain ⟨k4, h4⟩ : ∃ k : Int, (nx : Int) = s - p + m * k := by
    have a1 := Nat.div_add_mod s m
    have a2 := Nat.div_add_mod p m
    have a3 := Nat.div_add_mod (s % m + m - p % m) m
    have a4 := Nat.mod_lt p hm
    rw [← hn] at a3
    refine ⟨1 - ((s / m : Nat) : Int) + ((p / m : Nat) : Int) - (((s % m + m - p % m) / m : Nat) : Int), ?_⟩
    have b1 : ((m * (s / m) + s % m : Nat) : Int) = (s : Int) := by exact_mod_cast a1
    have b2 : ((m * (p / m) + p % m : Nat) : Int) = (p : Int) := by exact_mod_cast a2
    have b3 : ((m * ((s % m + m - p % m) / m) + nx : Nat) : Int) = ((s % m + m - p % m : Nat) : Int) := by exact_mod_cast a3
    have b4 : ((s % m + m - p % m : Nat) : Int) = ((s % m : Nat) : Int) + m - ((p % m : Nat) : Int) := by omega
    rw [b4] at b3
    simp only [Int.natCast_add, Int.natCast_mul] at b1 b2 b3
    simp only [Int.mul_add, Int.mul_sub, Int.mul_one]
    generalize (m : Int) * ((s / m : Nat) : Int) = z1 at *
    generalize (m : Int) * ((p / m : Nat) : Int) = z2 at *
    generalize (m : Int) * (((s % m + m - p % m) / m : Nat) : Int) = z3 at *
    omega
  refine ⟨k1 - q * k2 - k3 * x + k4 * x, ?_⟩
  have e2 : (nx : Int) * x = s * x - q * (t * x) - m * k3 * x + m * k4 * x := by
    rw [h4, h3]
    simp only [Int.sub_mul, Int.add_mul, Int.mul_assoc]
    omega
  rw [e2, h1, h2, e1]
  simp only [Int.mul_add, Int.mul_sub, Int.add_mul, Int.mul_assoc, Int.mul_left_comm, Int.mul_comm]
  omega
theorem times_one {m x s : Nat} (hm : 1 < m) (h : Times m x s 1) : s * x % m = 1 := by
  obtain ⟨k, h⟩ := h
  have : ((s * x : Nat) : Int) % m = (1 : Int) % m := by
    push_cast
    rw [h]
    push_cast
    rw [Int.add_mul_emod_self_left]
  have h2 : s * x % m = 1 % m := by exact_mod_cast this
  rw [h2, Nat.mod_eq_of_lt hm]

set_option maxHeartbeats 8000000 in
set_option maxRecDepth 100000 in
theorem minv_main {w : World} {S T : Nat → Prop} {m a : Nat} {v va : Value} (hM : ModP.rep S w m [v]) (ha : RawN.rep T w a [va]) (hal : a < B64 ^ 64) :
    Calls Try.prog 58 #[v, va] w fun e w' => InvPost m a w e w' ∧ Below w.heap.size w w' := by
  go_enter Try.func58, Try.ntmps58
  go_wp2_with fail
  refine (pair_ok hM ha (num_raw (NumN.zero T w)) hal (Nat.pow_pos B64_pos)).mono ?_
  rintro e w1 ⟨⟨xv, yv, rfl, hx, _⟩, hb1⟩
  have hM1 := ModP.old (ModP.below hM hb1)
  obtain ⟨g, A, cap, inv, tv, ms, rfl, hg, c0, c1, c2, hms, hinv, htv, hcap, hcm, hpos, hok⟩ := mod_open hM1
  have hm0 := hok.big
  have hm32 := mod_lt (num_dig hms) hok
  have hle := B32_2
  have hxm := Nat.mod_lt a (show 0 < m by omega)
  have hmn := num_raw (mod_num hms hok)
  obtain ⟨X, hX⟩ : ∃ X, X = a % m := ⟨_, rfl⟩
  rw [← hX] at hx hxm
  have HX := hid hX
  clear hX hinv htv hM ha
  go_wp2_with fail
  refine (norm_calls hmn).mono ?_
  rintro e w2 ⟨⟨uv, rfl, hu⟩, hb2⟩
  have hb12 := below_trans hb1 hb2
  have hx2 := NumN.old (NumN.below hx hb2)
  have hM2 := rep_up hM1 hb2
  have hba := below_alloc (Below.refl w2.heap.size w2) (.cells #[.int .u64 1] 65)
  have hone := lit_one w2
  have hone' : NumN.rep (Fresh w (w2.alloc (.cells #[.int .u64 1] 65))) (w2.alloc (.cells #[.int .u64 1] 65)) 1 [.slice (some ⟨w2.heap.size, 0, none⟩) 1 1] :=
    ⟨[1], NatS.mono (lit1 w2 1 B64_gt) (by rintro b rfl; exact ⟨hb12.size, by simp⟩) (Same.refl _ _), by simp [Pl.Canon], Pl.val_one _ _⟩
  go_wp2_with fail
  go_loopg [9, 10, 11, 12] X (fun k uv vv sv tv wr => ∃ (U V s t : Nat), k = V ∧ NumN.rep (· < wr.heap.size) wr U [uv] ∧ NumN.rep (· < wr.heap.size) wr V [vv] ∧ NumN.rep (Fresh w wr) wr s [sv] ∧ NumN.rep (Fresh w wr) wr t [tv] ∧
    Hid (Nat.gcd U V = Nat.gcd m X) ∧ Hid (Times m X s U) ∧ Hid (Times m X t V) ∧ U ≤ m ∧ V ≤ m ∧ s < m ∧ t < m ∧ Below w2.heap.size w2 wr)
  case atStart =>
    refine ⟨m, X, 0, 1, rfl, rep_up (NumN.old hu) hba, rep_up hx2 hba, NumN.zero _ _, hone', hid rfl, ?_, ?_, by omega, by omega, by omega, by omega, hba⟩
    · exact ⟨-1, by simp; omega⟩
    · exact ⟨0, by simp⟩
  case round =>
    clear hx hx2 hu hone hone' hba hmn hb2
    obtain ⟨V, rfl⟩ : ∃ V, V = gk := ⟨_, rfl⟩
    obtain ⟨U, _, s, t, rfl, hU, hV, hs, ht, hgcd, hts, htt, hUm, hVm, hsm, htm, hB⟩ := hrel
    obtain ⟨wo, rfl⟩ : ∃ wo : World, wo = wr := ⟨_, rfl⟩
    have hMo := rep_up hM2 hB
    have hBo := below_trans hb12 hB
    by_cases h0 : 0 < V
    · obtain ⟨vs, hvs, hvc, hvv⟩ := id hV
      have hvl : 0 < vs.length := by
        rcases Nat.eq_zero_or_pos vs.length with h | h
        · obtain rfl := List.eq_nil_of_length_eq_zero h
          rw [Pl.val_nil] at hvv; omega
        · exact h
      obtain ⟨vA, vcap, rfl, hvcap, hvcm⟩ := sl_open hvs
      have hUV := Nat.div_le_self U V
      have hmod := Nat.mod_lt U h0
      have hmulE : modMulE m (U / V) t = .ok (U / V * t % m) := by unfold modMulE; rw [if_neg (by omega)]
      have hpm := Nat.mod_lt (U / V * t) (show 0 < m by omega)
      have hsubE : modSubE m s (U / V * t % m) = .ok ((s % m + m - U / V * t % m % m) % m) := by unfold modSubE; rw [if_neg (by omega)]
      have hnm := Nat.mod_lt (s % m + m - U / V * t % m % m) (show 0 < m by omega)
      have hts2 : Hid (Times m X ((s % m + m - U / V * t % m % m) % m) (U % V)) := times_step (by omega) hts.out htt.out rfl rfl rfl
      have hg2 : Hid (Nat.gcd V (U % V) = Nat.gcd m X) := by
        show _ = _
        rw [← hgcd.out, Nat.gcd_comm U V, Nat.gcd_rec V U, Nat.gcd_comm]
      have Hmul := hid hmulE
      have Hsub := hid hsubE
      clear hmulE hsubE hvc hvv hvs hts hgcd
      go_wp2_with fail
      refine (div_ok (num_raw hU) (num_raw hV) (by omega) (by omega) h0).mono ?_
      rintro e w3 ⟨⟨qv, rv, rfl, hq, hr⟩, hb3⟩
      go_wp2_with fail
      refine (mmul_calls (T := fun b => b < w3.heap.size) (ModP.below hMo hb3) (num_raw (NumN.old hq)) (num_raw (NumN.old (NumN.below ht hb3)))).mono ?_
      rintro e w4 ⟨he, hb4⟩
      rw [Hmul.out] at he
      obtain ⟨pv, rfl, hp⟩ := he
      rw [errV_zero]
      have hb34 := below_trans hb3 hb4
      go_wp2_with fail
      refine (msub_calls (T := fun b => b < w4.heap.size) (ModP.below hMo hb34) (num_raw (NumN.old (NumN.below hs hb34))) (num_raw (NumN.old hp))).mono ?_
      rintro e w5 ⟨he, hb5⟩
      rw [Hsub.out] at he
      obtain ⟨nv, rfl, hn⟩ := he
      rw [errV_zero]
      have hb35 := below_trans hb34 hb5
      have hb45 := below_trans hb4 hb5
      have hB5 := below_trans hB hb35
      have hV5 := rep_up hV hb35
      have hR5 := rep_up (NumN.old hr) hb45
      have ht5 := NumN.mono (NumN.below ht hb35) (S' := Fresh w w5) (Fresh.mono (Nat.le_refl _) hb35.size) (Same.refl _ _)
      have hn5 := NumN.mono hn (S' := Fresh w w5) (Fresh.mono (by have := hBo.size; have := hb34.size; omega) (Nat.le_refl _)) (Same.refl _ _)
      clear hU hV hs ht hq hr hp hn
      go_wp2_with fail
      go_roundg (U % V)
      case rel => exact ⟨V, U % V, t, _, rfl, hV5, hR5, ht5, hn5, hg2, htt, hts2, hVm, by omega, htm, hnm, hB5⟩
      case measure => omega
    · obtain rfl : V = 0 := by omega
      obtain ⟨vs, hvs, hvc, hvv⟩ := id hV
      have hvl := canon_zero hvc hvv
      obtain ⟨vA, vcap, rfl, hvcap, hvcm⟩ := sl_open hvs
      have hg1 := hgcd.out
      rw [Nat.gcd_zero_right] at hg1
      rw [hvl]
      have hba := below_alloc (Below.refl wo.heap.size wo) (.cells #[.int .u64 1] 65)
      have hone := lit_one wo
      have hU1 := rep_up hU hba
      have hBa := below_trans hBo hba
      have hs1 := NumN.below hs hba
      have Hg1 := hid hg1
      have Hvl := hid hvl
      clear hg1 hvl hvs hvc hvv hgcd htt
      by_cases hu1 : U = 1
      · have hPl : Pl.cmp U 1 = 0 := by rw [hu1]; rfl
        have HPl := hid hPl
        have Hu1 := hid hu1
        clear hPl hu1
        go_wp2_with fail
        refine (cmp_calls (num_raw hU1) (num_raw hone)).mono ?_
        rintro e w6 ⟨rfl, hst⟩
        rw [HPl.out]
        have hs6 := hst.rep _ hs1
        have hB6 := still_below hBa hst
        have hsz := hst.size
        go_wp2_with fail
        go_ret2
        refine ⟨?_, hB6⟩
        unfold InvPost
        rw [if_neg (by omega), if_neg (by rw [← HX.out, ← Hg1.out, Hu1.out]; simp)]
        refine ⟨s, _, rfl, NumN.mono hs6 (Fresh.mono (Nat.le_refl _) (by simp at hsz; omega)) (Same.refl _ _), hsm, ?_⟩
        have h1 := hts.out
        rw [Hu1.out] at h1
        have h2 := times_one (by omega) h1
        rw [HX.out] at h2
        rw [← h2, Nat.mul_mod s (a % m), Nat.mod_mod, ← Nat.mul_mod]
      · have hPl : ((Pl.cmp U 1 : Int) == 0) = false := by rw [beq_eq_false_iff_ne]; intro h; exact hu1 (Pl.cmp_zero.1 h)
        have hPl2 : Pl.cmp U 1 ≠ 0 := by intro h; exact hu1 (Pl.cmp_zero.1 h)
        have hPl3 : ((Pl.cmp U 1 : Int) != 0) = true := by rw [bne_iff_ne]; exact hPl2
        obtain ⟨cv, hcv⟩ : ∃ cv, cv = Pl.cmp U 1 := ⟨_, rfl⟩
        rw [← hcv] at hPl hPl2 hPl3
        have Hcv := hid hcv
        have Hu1 := hid hu1
        clear hcv hu1
        go_wp2_with fail
        refine (cmp_calls (num_raw hU1) (num_raw hone)).mono ?_
        rintro e w6 ⟨rfl, hst⟩
        rw [← Hcv.out]
        have hB6 := still_below hBa hst
        go_wp2_with fail
        go_ret2
        refine ⟨?_, hB6⟩
        unfold InvPost
        rw [if_neg (by omega), if_pos (by rw [← HX.out, ← Hg1.out]; exact Hu1.out)]
        rfl

theorem minv_calls {w : World} {S T : Nat → Prop} {m a : Nat} {v va : Value} (hM : ModP.rep S w m [v]) (ha : RawN.rep T w a [va]) :
    Calls Try.prog 58 #[v, va] w fun e w' => InvPost m a w e w' ∧ Below w.heap.size w w' := by
  by_cases hl : B64 ^ 64 ≤ a
  · go_enter Try.func58, Try.ntmps58
    go_wp2_with fail
    refine (pair_long hM ha (num_raw (NumN.zero T w)) (.inl hl)).mono ?_
    rintro e w1 ⟨rfl, hb1⟩
    go_wp2
    go_ret2
    exact ⟨by unfold InvPost; rw [if_pos hl]; rfl, hb1⟩
  · exact minv_main hM ha (by omega)

end Go.Proofs.Ytphbacggmhjmgaa
