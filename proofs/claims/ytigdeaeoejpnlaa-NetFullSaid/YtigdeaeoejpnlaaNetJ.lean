/- The law NetFull: its walk. -/
import Derived.Test.YtigdeaeoejpnlaaNetI
namespace Go.Proofs.Ytigdeaeoejpnlaa
open Go.RowKit

def fullP (i : Nat) : Packet := ((i : Int), 0, 0, false, [])
def fullL (m : Nat) : List Packet := (List.range m).map fullP
theorem fullL_len (m : Nat) : (fullL m).length = m := by simp [fullL]
theorem fullL_succ (m : Nat) : fullL (m + 1) = fullL m ++ [fullP m] := by simp [fullL, List.range_succ]

theorem packet_free {S S' : Nat → Prop} {w w' : World} {p : Packet} (hp : p.2.2.2.2 = []) {cs : List Value} (h : PacketS.rep S w p cs) : PacketS.rep S' w' p cs := by
  obtain ⟨a, b, c, d, xs⟩ := p
  obtain rfl : xs = [] := hp
  obtain ⟨A, cap, rfl, hb, h1, h2, h3⟩ := packet_open h
  obtain ⟨A', cap', ys, e, k1, k2, k3, k4⟩ := hb
  obtain rfl : ys = [] := k4
  exact packet_make h1 h2 h3 ⟨A', cap', [], e, k1, k2, fun h => absurd rfl h, rfl⟩
theorem Own.free {S S' : Nat → Prop} {w : World} {base : Nat} {e : TypeId} {xs : List Packet} {v : Value} (h : Own PacketS base e S w xs v) (hp : ∀ p ∈ xs, p.2.2.2.2 = []) : Own PacketS base e S' w xs v := by
  obtain ⟨cs, h1, h2⟩ := h
  refine ⟨cs, h1, ?_⟩
  clear h1
  induction xs generalizing cs with
  | nil => exact h2
  | cons x xs ih =>
    obtain ⟨a, b, rfl, ha, hb⟩ := h2
    exact ⟨a, b, rfl, packet_free (hp x (by simp)) ha, ih (fun p hp' => hp p (by simp [hp'])) b hb⟩
theorem fullL_free (m : Nat) : ∀ p ∈ fullL m, p.2.2.2.2 = [] := by
  intro p hp
  obtain ⟨i, _, rfl⟩ := List.mem_map.1 hp
  rfl

set_option maxHeartbeats 8000000 in
set_option maxRecDepth 100000 in
theorem full_calls (c : Int) (hc : -9223372036854775808 ≤ c ∧ c ≤ 9223372036854775807) (w : World) : Calls Try.prog 3 #[.int .i64 c] w fun e w' => e = .returned (.bool true) ∧ Below w.heap.size w w' := by
  go_enter Try.func3, Try.ntmps3
  go_wp2_with fail
  refine (up_calls w).mono ?_
  rintro e w1 ⟨rfl, hb1⟩
  go_wp2_with fail
  refine (pick_calls c 10 (by omega) hc (by omega) w1).mono ?_
  rintro e w2 ⟨⟨k, rfl, hk⟩, rfl⟩
  go_wp2_with fail
  refine (new_calls w1 w.heap.size hb1.size).mono ?_
  rintro e w2 ⟨g, rfl, hN2, hb2⟩
  have hbw2 := below_trans hb1 hb2
  obtain ⟨M, hM⟩ : ∃ M, M = 4091 + k := ⟨_, rfl⟩
  have hM1 : M ≤ 4100 := by omega
  have hMk : (4091 : Int) + (k : Int) = (M : Int) := by omega
  have HM := hid hM
  clear hM
  go_wp2_with fail
  go_loopw [5, 6] (fun v q wr => ∃ i : Nat, q = .int .i64 (i : Int) ∧ i ≤ M ∧ Own PacketS w2.heap.size 30 (fun _ => False) wr (fullL i) v ∧ Below w2.heap.size w2 wr) (fun _ q _ => M - (intOf q).toNat)
  case atStart => exact ⟨0, rfl, by omega, Own.nil _ _ _ _ _, Below.refl _ _⟩
  case round =>
    obtain ⟨i, rfl, hi, hown, hbr⟩ := hrel
    obtain ⟨wo, rfl⟩ : ∃ wo : World, wo = wr := ⟨_, rfl⟩
    by_cases hlt : i < M
    · have hszo := hbr.size
      have hba := (Below.refl wo.heap.size wo).alloc (Nat.le_refl _) (.cells #[.int .i64 (i : Int), .int .i64 0, .int .u64 0, .bool false, .slice none 0 0] 30)
      have hu : PacketS.sl.rep (fun b => b = wo.heap.size) _ [fullP i] [.slice (some ⟨wo.heap.size, 0, none⟩) 1 1] :=
        Row.sl (r := PacketS) (S := fun b => b = wo.heap.size) (xs := [fullP i]) (Row.new wo 30 #[.int .i64 (i : Int), .int .i64 0, .int .u64 0, .bool false, .slice none 0 0]) rfl (RepL.single (packet_make (by omega) (by omega) (by unfold B64; omega) (sl_nil _ _ _))) 1 (by simp) (by omega) (by simp [PacketS, Rep.pair, Rep.int, Rep.bool, Rep.num, BytesS, Rep.sl])
      have hle : (fullL i).length = i := fullL_len i
      have hown' := (hown.below hba (fun b hb => hb.elim)).weaken (S' := fun b => b = wo.heap.size) (Nat.le_refl _) (fun _ h => h.elim)
      go_wp2_with (at_builtin; refine wpList_append_rep (r := PacketS) rfl _ _ 26 30 _ 56 rfl Try.underlying26 Try.info30 rfl (by decide) (by decide) w2.heap.size _ (fullL i) _ [fullP i] rfl rfl hown' hu ?c3 ?c4 ?c5 ?_)
      case c3 => rw [hle]; simp; omega
      case c4 => simp; omega
      case c5 =>
        rintro b rfl
        refine ⟨by simp, fun e => ?_⟩
        have := (hown.blk _ e.symm).2
        omega
      intro v' w3 h1 h2 h3
      rw [← fullL_succ] at h1
      have hown3 := h1.free (S' := fun _ => False) (fullL_free _)
      have hb3 : Below w2.heap.size w2 w3 := (below_trans hbr hba).grown h2 (by simp; omega) (fun k' hk' => (hown.blk k' hk').1)
      clear h1 h2 h3 hba hown'
      go_wp2_with fail
      go_roundw
      case rel => exact ⟨i + 1, by simp, by omega, hown3, hb3⟩
      case measure => simp [intOf]; omega
    · obtain rfl : i = M := by omega
      have hszo := hbr.size
      obtain ⟨A, cap, rfl, hcap, hcm⟩ := hown.val
      have hl : PacketS.sl.rep (fun b => w2.heap.size ≤ b) wo (fullL i) [_] := hown.sl (fun _ h => h.elim) (fun k' hk' => (hown.blk k' hk').1) (by rw [fullL_len]; have e : PacketS.by_ = 56 := rfl; rw [e]; omega)
      have hNo := hN2.below hbr
      have hbwo := below_trans hbw2 hbr
      rw [fullL_len] at hl
      rw [fullL_len]
      go_wp2_with fail
      refine (send_calls hNo hl (fun b hb hf => by have := hf.2; omega)).mono ?_
      rintro e w4 ⟨he, F4, S4, hN4, hF4, hS4, ht4⟩
      rw [fullL_len, List.length_nil, Nat.sub_zero] at he
      rw [List.length_nil, Nat.sub_zero, List.nil_append] at hN4
      have hbw4 := ht4.below hbwo (by have := hbwo.size; omega) (fun b hb => (hNo.lt b hb).1)
      obtain ⟨X, hX⟩ : ∃ X, X = (fullL i).take 4096 := ⟨_, rfl⟩
      rw [← hX] at hN4
      have hXl : X.length = min 4096 i := by rw [hX, List.length_take, fullL_len]
      have hX0 : ∃ pk, X[0]? = some pk := ⟨X[0]'(by omega), List.getElem?_eq_getElem _⟩
      obtain ⟨pk, hpk⟩ := hX0
      have hk' := HM.out
      clear hX hNo hown hl hF4 hS4 ht4 HM hcap hcm
      rcases Nat.lt_trichotomy k 5 with h5 | h5 | h5
      · have e1 : i - 4096 = 0 := by omega
        have e2 : X.length = i := by omega
        rw [e1] at he
        subst he
        have t1 : ¬ (5 : Int) < (k : Int) := by omega
        have t2 : ¬ (5 : Int) ≤ (k : Int) := by omega
        have Hk' := hid hk'
        have E1 := hid e1
        clear hk' e1 hXl hMk
        go_wp2_with fail
        refine (netlen_calls hN4).mono ?_
        rintro e w5 ⟨rfl, rfl⟩
        rw [e2]
        go_wp2_with fail
        refine (double_ok hN4 0 pk hpk (by have := Hk'.out; omega)).mono ?_
        rintro e w5 ⟨rfl, F5, S5, hN5, hF5, hS5, ht5⟩
        have hbw5 := ht5.below hbw4 (by have := hbw4.size; omega) (fun b hb => (hN4.lt b hb).1)
        go_wp2_with fail
        refine (netlen_calls hN5).mono ?_
        rintro e w6 ⟨rfl, rfl⟩
        rw [List.length_append, e2, List.length_singleton]
        go_wp2_with fail
        go_ret
        exact ⟨rfl, hbw5⟩
      · have e1 : i - 4096 = 0 := by omega
        have e2 : X.length = 4096 := by omega
        have e3 : (i : Int) = 4096 := by omega
        rw [e1] at he
        subst he
        have t1 : ¬ (5 : Int) < (k : Int) := by omega
        have t2 : (5 : Int) ≤ (k : Int) := by omega
        clear hk' e1 hXl hMk
        go_wp2_with fail
        refine (netlen_calls hN4).mono ?_
        rintro e w5 ⟨rfl, rfl⟩
        rw [e2]
        go_wp2_with fail
        refine (double_full hN4 0 (by omega) (by omega)).mono ?_
        rintro e w5 ⟨he, rfl⟩
        rw [show errV 11 = .iface 36 (.int .i64 11) from rfl] at he
        subst he
        have hee := fun W => err_eql 11 11 W
        go_wp2_with fail
        refine (netlen_calls hN4).mono ?_
        rintro e w5 ⟨rfl, rfl⟩
        rw [e2]
        go_wp2_with fail
        go_ret
        exact ⟨rfl, hbw4⟩
      · obtain ⟨d, hd⟩ : ∃ d, d = i - 4096 := ⟨_, rfl⟩
        have e2 : X.length = 4096 := by omega
        have e3 : (i : Int) - (d : Int) = 4096 := by omega
        have e4 : (k : Int) - 5 = (d : Int) := by omega
        rw [← hd] at he
        subst he
        have t1 : (5 : Int) < (k : Int) := by omega
        have t2 : (5 : Int) ≤ (k : Int) := by omega
        clear hk' hd hXl hMk
        go_wp2_with fail
        refine (netlen_calls hN4).mono ?_
        rintro e w5 ⟨rfl, rfl⟩
        rw [e2]
        go_wp2_with fail
        refine (double_full hN4 0 (by omega) (by omega)).mono ?_
        rintro e w5 ⟨he, rfl⟩
        rw [show errV 11 = .iface 36 (.int .i64 11) from rfl] at he
        subst he
        have hee := fun W => err_eql 11 11 W
        go_wp2_with fail
        refine (netlen_calls hN4).mono ?_
        rintro e w5 ⟨rfl, rfl⟩
        rw [e2]
        go_wp2_with fail
        go_ret
        exact ⟨rfl, hbw4⟩

end Go.Proofs.Ytigdeaeoejpnlaa
