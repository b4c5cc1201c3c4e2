/- NetPlays: Packets go through a net as the document says, through any script. No condition. -/
import Derived.Test.YtigdeaeoejpnlaaArgs
import Derived.Test.YtigdeaeoejpnlaaNetQ
import Derived.SizedLaws
namespace Go.Proofs.Ytigdeaeoejpnlaa.netPlays
open Go.ChangeShapes Go.WideShapes Go.ChangeAt Go.RowKit

theorem own : ownKnob Try.prog.godebug = none := by kernel_rfl

set_option maxRecDepth 100000 in
theorem lifted (os : Os) (started : os.Started) (H : Type) (enc : TypeId × Value → H) :
    ReturnsInHanded {} Try.checked os 4 .any (Rows.netPlaysSpec.pre6 enc Try.prog Try.f4 Rows.netPlaysRow.domain false) (Rows.netPlaysSpec.post enc Try.prog Try.f4 false true false false) := by
  refine returnsInHanded_of_change_sized (C := Try.checked) own started (by kernel_rfl) Try.func4
    (ChangeSpec.witness6 (enc := enc) (C := Try.checked) false ⟨#[], #[.slice none 0 0], []⟩ 8 (by kernel_rfl) (by kernel_rfl) (by kernel_rfl) (by kernel_rfl)) ?_
  intro W base args ds gs before hval0 hW hcnd hsz _
  have hval : ∀ (j : Nat) t v, Try.f4.params[j]? = some t → args[j]? = some v → Value.okWide Try.prog W .any base t v := hval0
  have hlies := whole_lies hW
  obtain ⟨p, q, hA0, hV, hp, hfz, hnd⟩ := id hW
  obtain ⟨rfl, rfl, rfl⟩ := trodVars_none hV
  have hA : DataW.TrodAll enc Try.prog W 0 (fun _ => true) true Try.f4.params.toList args.toList ds p := hA0
  have hsz' : (DataW.weightsEach Try.prog Try.f4.params.toList ds).all (· ≤ reachBytes) = true := by
    have h := hsz
    rw [show DataSpec.varTypes Try.checked.prog Rows.netPlaysSpec.plain = [] from rfl, List.append_nil, List.append_nil] at h
    exact h
  rw [Try.params4] at hA hval hsz'
  obtain ⟨v0, vs0, d0, ds0, p0, q0, hargs, rfl, rfl, h0, r0⟩ := trodAll_cons hA
  obtain ⟨rfl, rfl, rfl⟩ := trodAll_nil r0
  obtain rfl : args = #[v0] := by cases args; simp_all
  rw [hp, List.append_nil] at hlies
  obtain ⟨w0, _⟩ := weigh_head hsz'
  obtain ⟨x0, hx0⟩ := arg_slice Try.underlying38 reads_deeds (hval 0 38 v0 rfl rfl) h0 (hlies.left) w0
  refine (plays_calls W _ _ hx0).mono fun e W' ⟨he, hb⟩ => ?_
  subst he
  exact ⟨_, rfl, law_post hW rfl hb (by kernel_rfl) (of_decide_eq_true (by kernel_rfl)) rfl Try.underlying4 rfl⟩

theorem over : Rows.netPlaysRow.holds Try.pinned (OpenSpec.ofChange Rows.netPlaysSpec) :=
  OpenClaim.holds_of_wide 4 Try.f4 rfl rfl rfl rfl rfl rfl rfl ⟨rfl, rfl, rfl, rfl, rfl⟩ rfl rfl rfl rfl rfl (by kernel_rfl) Try.func4 (by kernel_rfl)
    (of_decide_eq_true (by kernel_rfl)) (by unfold Func.isWrapper; first | (rw [if_pos (by decide +kernel)]; kernel_rfl) | (rw [if_neg (by decide +kernel)]; exact ⟨rfl, rfl⟩))
    (fun os started H enc _ => lifted os started H enc)

/-- NetPlays, as given. -/
theorem proved : Rows.NetPlaysSaid :=
  over
#print axioms proved
end Go.Proofs.Ytigdeaeoejpnlaa.netPlays
