/- NetOrder: for every list of packets and every number, the law returns true and both read as they did: packets that nobody loses, doubles or changes the order of come in the order in which they were sent. No condition. -/
import Derived.Test.YtigdeaeoejpnlaaArgs
import Derived.Test.YtigdeaeoejpnlaaNetL
import Derived.SizedLaws
namespace Go.Proofs.Ytigdeaeoejpnlaa.netOrder
open Go.ChangeShapes Go.WideShapes Go.ChangeAt Go.RowKit

theorem own : ownKnob Try.prog.godebug = none := by kernel_rfl

set_option maxRecDepth 100000 in
theorem lifted (os : Os) (started : os.Started) (H : Type) (enc : TypeId × Value → H) :
    ReturnsInHanded {} Try.checked os 5 .any (Rows.netOrderSpec.pre6 enc Try.prog Try.f5 Rows.netOrderRow.domain false) (Rows.netOrderSpec.post enc Try.prog Try.f5 false true false false) := by
  refine returnsInHanded_of_change_sized (C := Try.checked) own started (by kernel_rfl) Try.func5
    (ChangeSpec.witness6 (enc := enc) (C := Try.checked) false ⟨#[], #[.slice none 0 0, .int .i64 0], []⟩ 8 (by kernel_rfl) (by kernel_rfl) (by kernel_rfl) (by kernel_rfl)) ?_
  intro W base args ds gs before hval0 hW hcnd hsz _
  have hval : ∀ (j : Nat) t v, Try.f5.params[j]? = some t → args[j]? = some v → Value.okWide Try.prog W .any base t v := hval0
  have hlies := whole_lies hW
  obtain ⟨p, q, hA0, hV, hp, hfz, hnd⟩ := id hW
  obtain ⟨rfl, rfl, rfl⟩ := trodVars_none hV
  have hA : DataW.TrodAll enc Try.prog W 0 (fun _ => true) true Try.f5.params.toList args.toList ds p := hA0
  have hsz' : (DataW.weightsEach Try.prog Try.f5.params.toList ds).all (· ≤ reachBytes) = true := by
    have h := hsz
    rw [show DataSpec.varTypes Try.checked.prog Rows.netOrderSpec.plain = [] from rfl, List.append_nil, List.append_nil] at h
    exact h
  rw [Try.params5] at hA hval hsz'
  obtain ⟨v0, vs0, d0, ds0, p0, q0, hargs, rfl, rfl, h0, r0⟩ := trodAll_cons hA
  obtain ⟨v1, vs1, d1, ds1, p1, q1, rfl, rfl, rfl, h1, r1⟩ := trodAll_cons r0
  obtain ⟨rfl, rfl, rfl⟩ := trodAll_nil r1
  obtain rfl : args = #[v0, v1] := by cases args; simp_all
  rw [hp, List.append_nil] at hlies
  obtain ⟨w0, _⟩ := weigh_head hsz'
  obtain ⟨xs, hx⟩ := arg_slice Try.underlying26 reads_packets (hval 0 26 v0 rfl rfl) h0 hlies.left w0
  obtain ⟨a1, rfl, rfl, rfl, wf1⟩ := open_int Try.underlying3 (hval 1 3 v1 rfl rfl) h1
  refine (order_calls a1 (int_range wf1) W xs v0 hx).mono fun e W' ⟨he, hb⟩ => ?_
  subst he
  exact ⟨_, rfl, law_post hW rfl hb (by kernel_rfl) (of_decide_eq_true (by kernel_rfl)) rfl Try.underlying4 rfl⟩

theorem over : Rows.netOrderRow.holds Try.pinned (OpenSpec.ofChange Rows.netOrderSpec) :=
  OpenClaim.holds_of_wide 5 Try.f5 rfl rfl rfl rfl rfl rfl rfl ⟨rfl, rfl, rfl, rfl, rfl⟩ rfl rfl rfl rfl rfl (by kernel_rfl) Try.func5 (by kernel_rfl)
    (of_decide_eq_true (by kernel_rfl)) (by unfold Func.isWrapper; first | (rw [if_pos (by decide +kernel)]; kernel_rfl) | (rw [if_neg (by decide +kernel)]; exact ⟨rfl, rfl⟩))
    (fun os started H enc _ => lifted os started H enc)

/-- NetOrder, as given. -/
theorem proved : Rows.NetOrderSaid :=
  over
#print axioms proved
end Go.Proofs.Ytigdeaeoejpnlaa.netOrder
