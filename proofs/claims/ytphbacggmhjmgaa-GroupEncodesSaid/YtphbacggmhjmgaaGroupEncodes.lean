/- GroupEncodes: for each group that is known, any bytes and any number, the law returns true and its arguments read as they did: any bytes as an element, and back; any number as bytes, or that it has none. No condition. -/
import Derived.Test.YtphbacggmhjmgaaArgs
import Derived.Test.YtphbacggmhjmgaaG4C
import Derived.SizedLaws
namespace Go.Proofs.Ytphbacggmhjmgaa.groupEncodes
open Go.ChangeShapes Go.WideShapes Go.ChangeAt Go.RowKit

theorem own : ownKnob Try.prog.godebug = none := by kernel_rfl

set_option maxRecDepth 100000 in
theorem lifted (os : Os) (started : os.Started) (H : Type) (enc : TypeId × Value → H) :
    ReturnsInHanded {} Try.checked os 3 .any (Rows.groupEncodesSpec.pre6 enc Try.prog Try.f3 Rows.groupEncodesRow.domain false) (Rows.groupEncodesSpec.post enc Try.prog Try.f3 false true false false) := by
  refine returnsInHanded_of_change_sized (C := Try.checked) own started (by kernel_rfl) Try.func3
    (ChangeSpec.witness6 (enc := enc) (C := Try.checked) false ⟨#[], #[.int .i64 0, .slice none 0 0, .slice none 0 0], []⟩ 8 (by kernel_rfl) (by kernel_rfl) (by kernel_rfl) (by kernel_rfl)) ?_
  intro W base args ds gs before hval0 hW hcnd hsz _
  have hval : ∀ (j : Nat) t v, Try.f3.params[j]? = some t → args[j]? = some v → Value.okWide Try.prog W .any base t v := hval0
  have hlies := whole_lies hW
  obtain ⟨p, q, hA0, hV, hp, hfz, hnd⟩ := id hW
  obtain ⟨rfl, rfl, rfl⟩ := trodVars_none hV
  have hA : DataW.TrodAll enc Try.prog W 0 (fun _ => true) true Try.f3.params.toList args.toList ds p := hA0
  have hsz' : (DataW.weightsEach Try.prog Try.f3.params.toList ds).all (· ≤ reachBytes) = true := by
    have h := hsz
    rw [show DataSpec.varTypes Try.checked.prog Rows.groupEncodesSpec.plain = [] from rfl, List.append_nil, List.append_nil] at h
    exact h
  rw [Try.params3] at hA hval hsz'
  obtain ⟨v0, vs0, d0, ds0, p0, q0, hargs, rfl, rfl, h0, r0⟩ := trodAll_cons hA
  obtain ⟨v1, vs1, d1, ds1, p1, q1, rfl, rfl, rfl, h1, r1⟩ := trodAll_cons r0
  obtain ⟨v2, vs2, d2, ds2, p2, q2, rfl, rfl, rfl, h2, r2⟩ := trodAll_cons r1
  obtain ⟨rfl, rfl, rfl⟩ := trodAll_nil r2
  obtain rfl : args = #[v0, v1, v2] := by cases args; simp_all
  rw [hp, List.append_nil] at hlies
  obtain ⟨w0, t0⟩ := weigh_head hsz'
  obtain ⟨a0, rfl, rfl, rfl, wf0⟩ := open_int Try.underlying3 (hval 0 3 v0 rfl rfl) h0
  obtain ⟨w1, t1⟩ := weigh_head t0
  obtain ⟨x1, hx1⟩ := arg_slice Try.underlying22 reads_bytes (hval 1 22 v1 rfl rfl) h1 (hlies.right.left) w1
  obtain ⟨w2, _⟩ := weigh_head t1
  obtain ⟨x2, hx2⟩ := arg_slice Try.underlying24 reads_nat (hval 2 24 v2 rfl rfl) h2 (hlies.right.right.left) w2
  refine (gencodes_calls a0 (int_range wf0) W hx1 hx2).mono fun e W' ⟨he, hb⟩ => ?_
  subst he
  exact ⟨_, rfl, law_post hW rfl hb (by kernel_rfl) (of_decide_eq_true (by kernel_rfl)) rfl Try.underlying4 rfl⟩

theorem over : Rows.groupEncodesRow.holds Try.pinned (OpenSpec.ofChange Rows.groupEncodesSpec) :=
  OpenClaim.holds_of_wide 3 Try.f3 rfl rfl rfl rfl rfl rfl rfl ⟨rfl, rfl, rfl, rfl, rfl⟩ rfl rfl rfl rfl rfl (by kernel_rfl) Try.func3 (by kernel_rfl)
    (of_decide_eq_true (by kernel_rfl)) (by unfold Func.isWrapper; first | (rw [if_pos (by decide +kernel)]; kernel_rfl) | (rw [if_neg (by decide +kernel)]; exact ⟨rfl, rfl⟩))
    (fun os started H enc _ => lifted os started H enc)

/-- GroupEncodes, as given. -/
theorem proved : Rows.GroupEncodesSaid :=
  over
#print axioms proved
end Go.Proofs.Ytphbacggmhjmgaa.groupEncodes
