/- MontLaws: the laws of the powers, sums and rests under a modulus. No condition. -/
import Derived.Test.YtigdeaeoejpnlaaArgs
import Derived.Test.YtigdeaeoejpnlaaMontLawD
import Derived.SizedLaws
namespace Go.Proofs.Ytigdeaeoejpnlaa.montLaws
open Go.ChangeShapes Go.WideShapes Go.ChangeAt Go.RowKit

theorem own : ownKnob Try.prog.godebug = none := by kernel_rfl

set_option maxRecDepth 100000 in
theorem lifted (os : Os) (started : os.Started) (H : Type) (enc : TypeId × Value → H) :
    ReturnsInHanded {} Try.checked os 9 .any (Rows.montLawsSpec.pre6 enc Try.prog Try.f9 Rows.montLawsRow.domain false) (Rows.montLawsSpec.post enc Try.prog Try.f9 false true false false) := by
  refine returnsInHanded_of_change_sized (C := Try.checked) own started (by kernel_rfl) Try.func9
    (ChangeSpec.witness6 (enc := enc) (C := Try.checked) false ⟨#[], #[.slice none 0 0, .slice none 0 0, .slice none 0 0, .slice none 0 0, .slice none 0 0], []⟩ 8 (by kernel_rfl) (by kernel_rfl) (by kernel_rfl) (by kernel_rfl)) ?_
  intro W base args ds gs before hval0 hW hcnd hsz _
  have hval : ∀ (j : Nat) t v, Try.f9.params[j]? = some t → args[j]? = some v → Value.okWide Try.prog W .any base t v := hval0
  have hlies := whole_lies hW
  obtain ⟨p, q, hA0, hV, hp, hfz, hnd⟩ := id hW
  obtain ⟨rfl, rfl, rfl⟩ := trodVars_none hV
  have hA : DataW.TrodAll enc Try.prog W 0 (fun _ => true) true Try.f9.params.toList args.toList ds p := hA0
  have hsz' : (DataW.weightsEach Try.prog Try.f9.params.toList ds).all (· ≤ reachBytes) = true := by
    have h := hsz
    rw [show DataSpec.varTypes Try.checked.prog Rows.montLawsSpec.plain = [] from rfl, List.append_nil, List.append_nil] at h
    exact h
  rw [Try.params9] at hA hval hsz'
  obtain ⟨v0, vs0, d0, ds0, p0, q0, hargs, rfl, rfl, h0, r0⟩ := trodAll_cons hA
  obtain ⟨v1, vs1, d1, ds1, p1, q1, rfl, rfl, rfl, h1, r1⟩ := trodAll_cons r0
  obtain ⟨v2, vs2, d2, ds2, p2, q2, rfl, rfl, rfl, h2, r2⟩ := trodAll_cons r1
  obtain ⟨v3, vs3, d3, ds3, p3, q3, rfl, rfl, rfl, h3, r3⟩ := trodAll_cons r2
  obtain ⟨v4, vs4, d4, ds4, p4, q4, rfl, rfl, rfl, h4, r4⟩ := trodAll_cons r3
  obtain ⟨rfl, rfl, rfl⟩ := trodAll_nil r4
  obtain rfl : args = #[v0, v1, v2, v3, v4] := by cases args; simp_all
  rw [hp, List.append_nil] at hlies
  obtain ⟨w0, t0⟩ := weigh_head hsz'
  obtain ⟨x0, hx0⟩ := arg_slice Try.underlying47 reads_nat (hval 0 47 v0 rfl rfl) h0 (hlies.left) w0
  obtain ⟨w1, t1⟩ := weigh_head t0
  obtain ⟨x1, hx1⟩ := arg_slice Try.underlying47 reads_nat (hval 1 47 v1 rfl rfl) h1 (hlies.right.left) w1
  obtain ⟨w2, t2⟩ := weigh_head t1
  obtain ⟨x2, hx2⟩ := arg_slice Try.underlying47 reads_nat (hval 2 47 v2 rfl rfl) h2 (hlies.right.right.left) w2
  obtain ⟨w3, t3⟩ := weigh_head t2
  obtain ⟨x3, hx3⟩ := arg_slice Try.underlying47 reads_nat (hval 3 47 v3 rfl rfl) h3 (hlies.right.right.right.left) w3
  obtain ⟨w4, _⟩ := weigh_head t3
  obtain ⟨x4, hx4⟩ := arg_slice Try.underlying47 reads_nat (hval 4 47 v4 rfl rfl) h4 (hlies.right.right.right.right.left) w4
  refine (laws_calls W hx0 hx1 hx2 hx3 hx4).mono fun e W' ⟨he, hb⟩ => ?_
  subst he
  exact ⟨_, rfl, law_post hW rfl hb (by kernel_rfl) (of_decide_eq_true (by kernel_rfl)) rfl Try.underlying4 rfl⟩

theorem over : Rows.montLawsRow.holds Try.pinned (OpenSpec.ofChange Rows.montLawsSpec) :=
  OpenClaim.holds_of_wide 9 Try.f9 rfl rfl rfl rfl rfl rfl rfl ⟨rfl, rfl, rfl, rfl, rfl⟩ rfl rfl rfl rfl rfl (by kernel_rfl) Try.func9 (by kernel_rfl)
    (of_decide_eq_true (by kernel_rfl)) (by unfold Func.isWrapper; first | (rw [if_pos (by decide +kernel)]; kernel_rfl) | (rw [if_neg (by decide +kernel)]; exact ⟨rfl, rfl⟩))
    (fun os started H enc _ => lifted os started H enc)

/-- MontLaws, as given. -/
theorem proved : Rows.MontLawsSaid :=
  over
#print axioms proved
end Go.Proofs.Ytigdeaeoejpnlaa.montLaws
