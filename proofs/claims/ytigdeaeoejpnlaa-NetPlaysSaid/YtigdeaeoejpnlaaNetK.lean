/- The layer net, ninth part: Clone. -/
import Derived.Test.YtigdeaeoejpnlaaNetI
namespace Go.Proofs.Ytigdeaeoejpnlaa
open Go.RowKit

set_option maxHeartbeats 2000000 in
theorem nclone_calls {B : Nat} {F S : Nat → Prop} {w : World} {g : Nat} {xs : List Packet} (hN : NetIs B F S w g xs) :
    Calls Try.prog 20 #[.pointer (some ⟨g, 0, none⟩)] w fun e w' => ∃ g' F' S', e = .returned (.pointer (some ⟨g', 0, none⟩)) ∧ NetIs B F' S' w' g' xs ∧ (∀ b, F' b → Fresh w w' b) ∧ (∀ b, S' b → Fresh w w' b) ∧ Below w.heap.size w w' := by
  have hBw := hN.lt g hN.self
  go_enter Try.func20, Try.ntmps20
  go_wp2_with fail
  refine (new_calls w B (by omega)).mono ?_
  rintro e w1 ⟨g1, rfl, hN1, hb1⟩
  have hNw := hN.below hb1
  obtain ⟨A, cap, hc, h1, h2, hf, n1, n2, n3⟩ := hNw.open
  have hsl := hNw.slice n2 n3
  go_wp2_with fail
  refine (send_calls hN1 hsl (fun b hb hf => ?_)).mono ?_
  · have := hf.1
    rcases hb with hb | hb
    · have := (hN.lt b hb).2; omega
    · have := (hN.bod b hb).1; omega
  rintro e w2 ⟨he, F2, S2, hN2, hF2, hS2, ht2⟩
  have hl := hN.len
  rw [List.length_nil, Nat.sub_zero, List.nil_append, List.take_of_length_le hl] at hN2
  obtain ⟨lost, hlost⟩ : ∃ v, e = .returned v := ⟨_, he⟩
  subst hlost
  have hs1 := hb1.size
  have hs2 := ht2.size
  clear he hf hc n1 n2 n3 hsl
  go_wp2_with fail
  go_ret
  refine ⟨g1, F2, S2, rfl, hN2, ?_, ?_, ht2.below hb1 hs1 (fun i hi => hi.1)⟩
  · intro b hb
    rcases hF2 b hb with h | h
    · exact ⟨h.1, Nat.lt_of_lt_of_le h.2 hs2⟩
    · exact ⟨Nat.le_trans hs1 h.1, h.2⟩
  · intro b hb
    rcases hS2 b hb with h | h
    · exact h.elim
    · exact ⟨Nat.le_trans hs1 h.1, h.2⟩

end Go.Proofs.Ytigdeaeoejpnlaa
