/- The law NetOrder: its walk. -/
import Derived.Test.YtigdeaeoejpnlaaNetK
import Derived.Test.YtigdeaeoejpnlaaReads
import Derived.Test.YtigdeaeoejpnlaaFrame
import Derived.Deep.RegionHeld3
namespace Go.Proofs.Ytigdeaeoejpnlaa
open Go.RowKit

theorem reads_bytes : Reads Try.prog 28 BytesS :=
  reads_slice Try.underlying28 (reads_num (B := 256) Try.underlying5 rfl (by decide)) (by kernel_rfl) (by kernel_rfl) (by decide)
theorem reads_packet : Reads Try.prog 30 PacketS :=
  reads_struct Try.underlying30 (readsF_cons (reads_int Try.underlying3) rfl (by kernel_rfl) (readsF_cons (reads_int Try.underlying3) rfl (by kernel_rfl) (readsF_cons (reads_num (B := B64) Try.underlying27 rfl (by decide)) rfl (by kernel_rfl)
    (readsF_cons (reads_bool Try.underlying4) rfl (by kernel_rfl) (readsF_one reads_bytes rfl (by kernel_rfl)))))) (by kernel_rfl)
theorem reads_packets : Reads Try.prog 26 PacketS.sl :=
  reads_slice Try.underlying26 reads_packet (by kernel_rfl) (by kernel_rfl) (by decide)

theorem netlen_of {B : Nat} {F S : Nat → Prop} {w : World} {g : Nat} {xs : List Packet} (h : NetIs B F S w g xs) (m : Nat) (hm : Hid (xs.length = m)) :
    Calls Try.prog 15 #[.pointer (some ⟨g, 0, none⟩)] w fun e w' => e = .returned (.int .i64 (m : Int)) ∧ w = w' := by
  rw [← hm.out]; exact netlen_calls h
theorem addr_add (b o i : Nat) : (⟨b, o, none⟩ : Addr).add i = ⟨b, o + i, none⟩ := by unfold Addr.add; split <;> simp_all

set_option maxHeartbeats 8000000 in
set_option maxRecDepth 100000 in
theorem order_calls (c : Int) (hc : -9223372036854775808 ≤ c ∧ c ≤ 9223372036854775807) (w : World) (xs : List Packet) (v : Value) (hl : PacketS.sl.rep (· < w.heap.size) w xs [v]) :
    Calls Try.prog 5 #[v, .int .i64 c] w fun e w' => e = .returned (.bool true) ∧ Below w.heap.size w w' := by
  obtain ⟨A, cap, rfl, hcap, hcm⟩ := sl_open hl
  go_enter Try.func5, Try.ntmps5
  go_wp2_with fail
  refine (up_calls w).mono ?_
  rintro e w1 ⟨rfl, hb1⟩
  go_wp2_with fail
  refine (new_calls w1 w.heap.size hb1.size).mono ?_
  rintro e w2 ⟨g, rfl, hN2, hb2⟩
  have hbw2 := below_trans hb1 hb2
  by_cases h200 : 200 < xs.length
  · go_wp2_with fail
    go_ret
    exact ⟨rfl, hbw2⟩
  have hl2 := PacketS.sl.keep hl (fun _ h => h) hbw2
  go_wp2_with fail
  go_loopw [7] (fun q wr => ∃ i : Nat, q = .int .i64 (i : Int) ∧ i ≤ xs.length ∧ wr = w2) (fun q _ => xs.length - (intOf q).toNat)
  case atStart => exact ⟨0, rfl, by omega, rfl⟩
  case round =>
    obtain ⟨i, rfl, hi, rfl⟩ := hrel
    by_cases hlt : i < xs.length
    · obtain ⟨b, o, a1, a2, a3, a4, A1, m1, cap1, rfl, hb, hrep, c0, c1, c2, c3, c4⟩ := packet_at hl2 i hlt
      by_cases h1000 : 1000 < m1
      · go_wp2_with fail
        go_ret
        exact ⟨rfl, hbw2⟩
      · go_wp2_with fail
        go_roundw
        case rel => exact ⟨i + 1, by simp, by omega, by first | rfl | trivial⟩
        case measure => simp [intOf]; omega
    · go_wp2_with fail
      rw [show (xs.length : Int) + 1 = ((xs.length + 1 : Nat) : Int) from rfl]
      refine (pick_calls c (xs.length + 1) (by omega) hc (by omega) wr).mono ?_
      rintro e w3 ⟨⟨k, rfl, hk⟩, rfl⟩
      have hk1 : k ≤ cap := by omega
      have hk2 : k ≤ xs.length := by omega
      have hk3 : (k : Int) ≤ (cap : Int) := by omega
      have hk4 : (k : Int) ≤ (xs.length : Int) := by omega
      have hs1 := hb1.size
      have hs2 := hb2.size
      go_wp2_with fail
      have hcut := sl_cut hl2 0 k (Nat.zero_le _) hk2 A (fun _ b o e => by simpa using e) k cap rfl (by omega) hcm
      refine (send_calls hN2 hcut (fun b hb hf => by have h1 : b < w.heap.size := hb; have := hf.1; omega)).mono ?_
      rintro e w4 ⟨he, F4, S4, hN4, hF4, hS4, ht4⟩
      rw [List.length_nil, Nat.sub_zero, List.nil_append, List.drop_zero, List.take_of_length_le (by simp; omega)] at hN4
      obtain ⟨v4, hv4⟩ : ∃ v, e = .returned v := ⟨_, he⟩
      subst hv4
      have hbw4 := ht4.below hbw2 (by omega) (fun i hi => by have := hi.1; omega)
      have hs4 := ht4.size
      clear he hcut hF4 hS4 ht4 hN2
      go_wp2_with fail
      refine (nclone_calls hN4).mono ?_
      rintro e w5 ⟨gc, F5, S5, rfl, hC5, hF5, hS5, hb5⟩
      have hN5 := hN4.below hb5
      have hbw5 := Below.trans hbw4 (hb5.mono (by omega))
      have hs5 := hb5.size
      have hl5 := PacketS.sl.keep hl (fun _ h => h) hbw5
      obtain ⟨A2, hA2⟩ : ∃ A2, (if cap = k then A else Option.map (fun x => x.add (k * 5)) A) = A2 := ⟨_, rfl⟩
      go_wp2_with fail
      have hcut2 := sl_cut hl5 k xs.length hk2 (Nat.le_refl _) A2 (fun hkl b o e => by
        rw [← hA2, if_neg (by omega), e, Option.map_some, addr_add]
        rfl) (xs.length - k) (cap - k) rfl (by omega) (by omega)
      have hlt4 := hN4.lt
      refine (send_calls hN5 hcut2 (fun b hb hf => by
        have h1 : b < w.heap.size := hb
        have := (hlt4 b hf).1
        omega)).mono ?_
      rintro e w6 ⟨he, F6, S6, hN6, hF6, hS6, ht6⟩
      have hx6 : List.take k xs ++ List.take (4096 - (List.take k xs).length) (List.drop k (List.take xs.length xs)) = xs := by
        rw [List.take_length, List.take_of_length_le (l := xs.drop k) (by simp; omega), List.take_append_drop]
      rw [hx6] at hN6
      obtain ⟨v6, hv6⟩ : ∃ v, e = .returned v := ⟨_, he⟩
      subst hv6
      have hbw6 := ht6.below hbw5 (by omega) (fun i hi => (hlt4 i hi).1)
      have hs6 := ht6.size
      have hdis : ∀ b, F5 b ∨ S5 b → ¬ F6 b := by
        intro b hb hf
        have h1 : w4.heap.size ≤ b ∧ b < w5.heap.size := by
          rcases hb with hb | hb
          · exact hF5 b hb
          · exact hS5 b hb
        rcases hF6 b hf with h | h
        · have := (hlt4 b h).2; omega
        · have := h.1; omega
      have hC6 := hC5.turned ht6 (fun b hb hf => by
        have h1 : w4.heap.size ≤ b := by
          rcases hb with hb | hb
          · exact (hF5 b hb).1
          · exact (hS5 b hb).1
        have := (hlt4 b hf).2
        omega)
      have hl6 := PacketS.sl.keep hl (fun _ h => h) hbw6
      have hck : (xs.take k).length = k := by rw [List.length_take, Nat.min_eq_left hk2]
      clear he hcut2 hF6 hS6 ht6 hN5 hN4 hC5 hl5 hA2 hx6 hF5 hS5 hlt4
      go_wp2_with fail
      refine (netlen_calls hC6).mono ?_
      rintro e w7 ⟨rfl, rfl⟩
      rw [hck]
      go_wp2_with fail
      refine (netlen_calls hN6).mono ?_
      rintro e w7 ⟨rfl, rfl⟩
      go_wp2_with fail
      go_loopw [10] (fun q wr => ∃ i : Nat, q = .int .i64 (i : Int) ∧ i ≤ xs.length ∧ NetIs w.heap.size F6 S6 wr g (xs.drop i) ∧ NetIs w.heap.size F5 S5 wr gc (xs.take k) ∧ Below w.heap.size w wr) (fun q _ => xs.length - (intOf q).toNat)
      case atStart => exact ⟨0, rfl, by omega, by simpa using hN6, hC6, hbw6⟩
      case round =>
        clear hN6 hC6 hbw6 hl6
        obtain ⟨i, rfl, hi, hNr, hCr, hbr⟩ := hrel
        obtain ⟨wo, rfl⟩ : ∃ wo : World, wo = wr := ⟨_, rfl⟩
        by_cases hlt : i < xs.length
        · have hp0 : (xs.drop i)[0]? = some xs[i] := by simp [hlt]
          go_wp2_with fail
          refine (take_ok hNr 0 _ hp0).mono ?_
          rintro e w8 ⟨⟨ds, rfl, hx8⟩, hN8, ht8⟩
          obtain ⟨A8, cap8, rfl, _⟩ := packet_open hx8
          have hbw8 := ht8.below hbr (by have := hbr.size; omega) (fun i hi => (hNr.lt i hi).1)
          have hC8 := hCr.turned ht8 hdis
          obtain ⟨pk, hpk⟩ : ∃ pk, pk = xs[i] := ⟨_, rfl⟩
          rw [← hpk] at hx8 ⊢
          obtain ⟨m, hm⟩ : ∃ m, m = (xs.drop (i + 1)).length := ⟨_, rfl⟩
          have hm1 : (xs.length : Int) - 1 - (i : Int) = (m : Int) := by rw [hm, List.length_drop]; omega
          obtain ⟨n1, hn1⟩ : ∃ n1, n1 = xs.length - 1 := ⟨_, rfl⟩
          have hw1 : IntKind.i64.wrap ((xs.length : Int) - 1) = (n1 : Int) := by
            rw [show (xs.length : Int) - 1 = (n1 : Int) by omega]; exact IntWalk.i64_in _ (by omega)
          have hw2 : IntKind.i64.wrap ((n1 : Int) - (i : Int)) = (m : Int) := by
            rw [show (n1 : Int) - (i : Int) = (m : Int) by omega]; exact IntWalk.i64_in _ (by omega)
          have hm2 : m ≤ 200 := by rw [hm, List.length_drop]; omega
          have Hm : Hid ((xs.drop (i + 1)).length = m) := hm.symm
          have Hck : Hid ((xs.take k).length = k) := hck
          have he8 : (xs.drop i).eraseIdx 0 = xs.drop (i + 1) := by rw [List.eraseIdx_zero, List.tail_drop]
          rw [he8] at hN8
          have hb9 := below_alloc (Below.refl w8.heap.size w8) (.cells #[.int .i64 pk.1, .int .i64 pk.2.1, .int .u64 (pk.2.2.1 : Int), .bool pk.2.2.2.1, .slice A8 pk.2.2.2.2.length cap8] 30)
          have hX9 := PacketS.below hx8 hb9.drew
          have hX9b : Box w8.heap.size S6 _ pk A8 cap8 := ⟨(Row.new w8 30 #[.int .i64 pk.1, .int .i64 pk.2.1, .int .u64 (pk.2.2.1 : Int), .bool pk.2.2.2.1, .slice A8 pk.2.2.2.2.length cap8]).drew, hX9⟩
          have hbwd := Below.trans hbw8 (hb9.drew.mono hbw8.size)
          have hl9 := PacketS.sl.keep hl (fun _ h => h) hbwd
          obtain ⟨b, o, a1, a2, a3, a4, A1, m1, cap1, rfl, hb, hrep, c0, c1, c2, c3, c4⟩ := packet_at hl9 i hlt
          rw [← hpk] at hrep
          have Hpk := hid hpk
          clear hNr hCr ht8 hpk hm he8 hck hdis hn1
          go_upto_region 20 with (fail)
          obtain ⟨x0, x1, x2, x3, x4⟩ := hX9b.cells
          have hz9 : w8.heap.size < (w8.alloc (.cells #[.int .i64 pk.1, .int .i64 pk.2.1, .int .u64 (pk.2.2.1 : Int), .bool pk.2.2.2.1, .slice A8 pk.2.2.2.2.length cap8] 30)).drew.heap.size := by show _ < (w8.alloc _).heap.size; simp
          have hz10 : b < (w8.alloc (.cells #[.int .i64 pk.1, .int .i64 pk.2.1, .int .u64 (pk.2.2.1 : Int), .bool pk.2.2.2.1, .slice A8 pk.2.2.2.2.length cap8] 30)).drew.heap.size := by
            show _ < (w8.alloc _).heap.size
            have := hbw8.size
            have h1 : b < w.heap.size := hb
            simp
            omega
          have hb10 : b < w8.heap.size := by have := hbw8.size; have h1 : b < w.heap.size := hb; omega
          go_region_held3 (fun w' => w'.cell? ⟨w8.heap.size, 0, none⟩ = some (.int .i64 pk.1) ∧ w'.cell? ⟨w8.heap.size, 1, none⟩ = some (.int .i64 pk.2.1) ∧ w'.cell? ⟨w8.heap.size, 2, none⟩ = some (.int .u64 (pk.2.2.1 : Int)) ∧ w'.cell? ⟨w8.heap.size, 3, none⟩ = some (.bool pk.2.2.2.1) ∧ w'.cell? ⟨w8.heap.size, 4, none⟩ = some (.slice A8 pk.2.2.2.2.length cap8) ∧
              w'.cell? ⟨b, o + i * 5, none⟩ = some (.int .i64 a1) ∧ w'.cell? ⟨b, o + i * 5 + 1, none⟩ = some (.int .i64 a2) ∧ w'.cell? ⟨b, o + i * 5 + 2, none⟩ = some (.int .u64 a3) ∧ w'.cell? ⟨b, o + i * 5 + 3, none⟩ = some (.bool a4) ∧ w'.cell? ⟨b, o + i * 5 + 4, none⟩ = some (.slice A1 m1 cap1))
            (first | exact ⟨x0, x1, x2, x3, x4, c0, c1, c2, c3, c4⟩ | exact hSD)
            (first
            | (go_at_call 18
               refine (same_true hX9 hrep).mono ?_
               rintro e wD ⟨rfl, hbD⟩
               have hND := (hN8.below hb9.drew).below hbD
               have hCD := (hC8.below hb9.drew).below hbD
               have hSD := And.intro ((hbD.cell (p := ⟨w8.heap.size, 0, none⟩) hz9).trans x0) (And.intro ((hbD.cell (p := ⟨w8.heap.size, 1, none⟩) hz9).trans x1) (And.intro ((hbD.cell (p := ⟨w8.heap.size, 2, none⟩) hz9).trans x2) (And.intro ((hbD.cell (p := ⟨w8.heap.size, 3, none⟩) hz9).trans x3) (And.intro ((hbD.cell (p := ⟨w8.heap.size, 4, none⟩) hz9).trans x4)
                 (And.intro ((hbD.cell (p := ⟨b, o + i * 5, none⟩) hz10).trans c0) (And.intro ((hbD.cell (p := ⟨b, o + i * 5 + 1, none⟩) hz10).trans c1) (And.intro ((hbD.cell (p := ⟨b, o + i * 5 + 2, none⟩) hz10).trans c2) (And.intro ((hbD.cell (p := ⟨b, o + i * 5 + 3, none⟩) hz10).trans c3) ((hbD.cell (p := ⟨b, o + i * 5 + 4, none⟩) hz10).trans c4)))))))))
)
            | (go_at_call_of 15 (Value.pointer (some ⟨g, 0, none⟩))
               refine (netlen_of hND m Hm).mono ?_
               rintro e wE ⟨rfl, rfl⟩)
            | (go_at_call_of 15 (Value.pointer (some ⟨gc, 0, none⟩))
               refine (netlen_of hCD k Hck).mono ?_
               rintro e wE ⟨rfl, rfl⟩))
          have hbwD := Below.trans hbwd (hbD.mono (by have := hbw8.size; show _ ≤ (w8.alloc _).heap.size; simp; omega))
          clear hX9 hX9b hb9 hrep c0 c1 c2 c3 c4 x0 x1 x2 x3 x4 hSD hN8 hC8 hl9 hw1 hw2 hm1
          go_wp2_with fail
          go_roundw
          case rel => exact ⟨i + 1, by simp, by omega, hND, hCD, hbwD⟩
          case measure => simp [intOf]; omega
        · have hbr' := hbr
          clear hNr
          go_wp2_with fail
          go_loopw [13] (fun q wr => ∃ j : Nat, q = .int .i64 ((j : Int) - 1) ∧ j ≤ k ∧ NetIs w.heap.size F5 S5 wr gc (xs.take j) ∧ Below w.heap.size w wr) (fun q _ => (intOf q + 1).toNat)
          case atStart => exact ⟨k, rfl, by omega, hCr, hbr'⟩
          case round =>
            clear hCr hbr' hbr
            obtain ⟨j, rfl, hj, hCr, hbr⟩ := hrel
            obtain ⟨wp, rfl⟩ : ∃ wp : World, wp = wr := ⟨_, rfl⟩
            obtain _ | j := j
            · have hneg : ¬ (0 : Int) ≤ ((0 : Nat) : Int) - 1 := by omega
              go_wp2_with fail
              refine (netlen_of hCr 0 (by show _ = _; simp)).mono ?_
              rintro e w8 ⟨rfl, rfl⟩
              go_wp2_with fail
              go_ret
              exact ⟨rfl, hbr⟩
            · have hjx : j < xs.length := by omega
              rw [show ((j + 1 : Nat) : Int) - 1 = (j : Int) by omega]
              have hp0 : (xs.take (j + 1))[j]? = some xs[j] := by simp [hjx]
              have he8 : (xs.take (j + 1)).eraseIdx j = xs.take j := by
                rw [List.take_succ_eq_append_getElem hjx, List.eraseIdx_append_of_length_le (by simp; omega)]
                simp
                rw [Nat.min_eq_left (by omega)]
                simp
              go_wp2_with fail
              refine (take_ok hCr j _ hp0).mono ?_
              rintro e w8 ⟨⟨ds, rfl, hx8⟩, hC8, ht8⟩
              obtain ⟨A8, cap8, rfl, _⟩ := packet_open hx8
              have hbw8 := ht8.below hbr (by have := hbr.size; omega) (fun i hi => (hCr.lt i hi).1)
              obtain ⟨pk, hpk⟩ : ∃ pk, pk = xs[j] := ⟨_, rfl⟩
              rw [← hpk] at hx8 ⊢
              rw [he8] at hC8
              have hw1 : IntKind.i64.wrap ((j : Int) - 1) = (j : Int) - 1 := IntWalk.i64_in _ (by omega)
              have hb9 := below_alloc (Below.refl w8.heap.size w8) (.cells #[.int .i64 pk.1, .int .i64 pk.2.1, .int .u64 (pk.2.2.1 : Int), .bool pk.2.2.2.1, .slice A8 pk.2.2.2.2.length cap8] 30)
              have hX9 := PacketS.below hx8 hb9.drew
              have hX9b : Box w8.heap.size S5 _ pk A8 cap8 := ⟨(Row.new w8 30 #[.int .i64 pk.1, .int .i64 pk.2.1, .int .u64 (pk.2.2.1 : Int), .bool pk.2.2.2.1, .slice A8 pk.2.2.2.2.length cap8]).drew, hX9⟩
              have hbwd := Below.trans hbw8 (hb9.drew.mono hbw8.size)
              have hl9 := PacketS.sl.keep hl (fun _ h => h) hbwd
              obtain ⟨b, o, a1, a2, a3, a4, A1, m1, cap1, rfl, hb, hrep, c0, c1, c2, c3, c4⟩ := packet_at hl9 j hjx
              rw [← hpk] at hrep
              clear hCr ht8 hpk he8 hdis hp0
              go_upto_region 26 with (fail)
              have hz9 : w8.heap.size < (w8.alloc (.cells #[.int .i64 pk.1, .int .i64 pk.2.1, .int .u64 (pk.2.2.1 : Int), .bool pk.2.2.2.1, .slice A8 pk.2.2.2.2.length cap8] 30)).drew.heap.size := by show _ < (w8.alloc _).heap.size; simp
              have hz10 : b < (w8.alloc (.cells #[.int .i64 pk.1, .int .i64 pk.2.1, .int .u64 (pk.2.2.1 : Int), .bool pk.2.2.2.1, .slice A8 pk.2.2.2.2.length cap8] 30)).drew.heap.size := by
                show _ < (w8.alloc _).heap.size
                have := hbw8.size
                have h1 : b < w.heap.size := hb
                simp
                omega
              obtain ⟨x0, x1, x2, x3, x4⟩ := hX9b.cells
              go_region_held3 (fun w' => w'.cell? ⟨w8.heap.size, 0, none⟩ = some (.int .i64 pk.1) ∧ w'.cell? ⟨w8.heap.size, 1, none⟩ = some (.int .i64 pk.2.1) ∧ w'.cell? ⟨w8.heap.size, 2, none⟩ = some (.int .u64 (pk.2.2.1 : Int)) ∧ w'.cell? ⟨w8.heap.size, 3, none⟩ = some (.bool pk.2.2.2.1) ∧ w'.cell? ⟨w8.heap.size, 4, none⟩ = some (.slice A8 pk.2.2.2.2.length cap8) ∧
                  w'.cell? ⟨b, o + j * 5, none⟩ = some (.int .i64 a1) ∧ w'.cell? ⟨b, o + j * 5 + 1, none⟩ = some (.int .i64 a2) ∧ w'.cell? ⟨b, o + j * 5 + 2, none⟩ = some (.int .u64 a3) ∧ w'.cell? ⟨b, o + j * 5 + 3, none⟩ = some (.bool a4) ∧ w'.cell? ⟨b, o + j * 5 + 4, none⟩ = some (.slice A1 m1 cap1))
                (first | exact ⟨x0, x1, x2, x3, x4, c0, c1, c2, c3, c4⟩ | exact hSD)
                (first
                | (go_at_call 18
                   refine (same_true hX9 hrep).mono ?_
                   rintro e wD ⟨rfl, hbD⟩
                   have hCD := (hC8.below hb9.drew).below hbD
                   have hSD := And.intro ((hbD.cell (p := ⟨w8.heap.size, 0, none⟩) hz9).trans x0) (And.intro ((hbD.cell (p := ⟨w8.heap.size, 1, none⟩) hz9).trans x1) (And.intro ((hbD.cell (p := ⟨w8.heap.size, 2, none⟩) hz9).trans x2) (And.intro ((hbD.cell (p := ⟨w8.heap.size, 3, none⟩) hz9).trans x3) (And.intro ((hbD.cell (p := ⟨w8.heap.size, 4, none⟩) hz9).trans x4)
                     (And.intro ((hbD.cell (p := ⟨b, o + j * 5, none⟩) hz10).trans c0) (And.intro ((hbD.cell (p := ⟨b, o + j * 5 + 1, none⟩) hz10).trans c1) (And.intro ((hbD.cell (p := ⟨b, o + j * 5 + 2, none⟩) hz10).trans c2) (And.intro ((hbD.cell (p := ⟨b, o + j * 5 + 3, none⟩) hz10).trans c3) ((hbD.cell (p := ⟨b, o + j * 5 + 4, none⟩) hz10).trans c4))))))))))
                | fail)
              have hbwD := Below.trans hbwd (hbD.mono (by have := hbw8.size; show _ ≤ (w8.alloc _).heap.size; simp; omega))
              clear hX9 hX9b hb9 hrep c0 c1 c2 c3 c4 x0 x1 x2 x3 x4 hSD hC8 hl9
              go_wp2_with fail
              go_roundw
              case rel => exact ⟨j, rfl, by omega, hCD, hbwD⟩
              case measure => simp [intOf]

end Go.Proofs.Ytigdeaeoejpnlaa
