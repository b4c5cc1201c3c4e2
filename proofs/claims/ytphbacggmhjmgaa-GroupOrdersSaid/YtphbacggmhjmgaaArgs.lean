/- From a law's arguments, as the row has them, to what their cells read as. -/
import Derived.Test.YtphbacggmhjmgaaFrame
import Derived.Test.YtphbacggmhjmgaaReads
namespace Go.Proofs.Ytphbacggmhjmgaa
open Go.ChangeShapes Go.WideShapes Go.ChangeAt Go.RowKit

theorem int_range {n : Int} (h : (Lit.int .i64 n).wf = true) : -9223372036854775808 ≤ n ∧ n ≤ 9223372036854775807 := by
  simp only [Lit.wf, Bool.and_eq_true, decide_eq_true_eq] at h
  have h1 : IntKind.min .i64 = -9223372036854775808 := rfl
  have h2 : IntKind.max .i64 = 9223372036854775807 := rfl
  omega

section
variable {H : Type} {enc : TypeId × Value → H} {P : Program} {W : World}

theorem arg_reads {α : Type} {t : TypeId} {r : Rep α} (hR : Reads P t r) {v : Value} {d : DataW H} {p : List MemPlace} (h : DataW.Trod enc P W 0 (fun _ => true) true t v d p) (hl : Lies W p) (hw : ∀ k ∈ d.weights P t, k ≤ reachBytes) :
    ∃ a, r.rep (· < W.heap.size) W a v.cells.toList := by
  obtain ⟨n, hn⟩ := h
  exact hR H enc W n _ (d, p) hn hl hw
theorem arg_slice {α : Type} {t e : TypeId} {r : Rep α} (ht : P.underlying t = some (.slice e)) (hR : Reads P t r.sl) {rc : Reach} {b : Nat} {v : Value} (hv : Value.okWide P W rc b t v) {d : DataW H} {p : List MemPlace} (h : DataW.Trod enc P W 0 (fun _ => true) true t v d p) (hl : Lies W p) (hw : ∀ k ∈ d.weights P t, k ≤ reachBytes) :
    ∃ a, r.sl.rep (· < W.heap.size) W a [v] := by
  obtain ⟨A, len, cap, rfl⟩ := okWide_slice ht hv
  exact arg_reads hR h hl hw

theorem whole_lies {ts : List TypeId} {vars : List String} {apart : Bool} {vs : List Value} {ds gs : List (DataW H)} {before : List MemPlace} (hW : DataW.Whole enc P ts vars apart W vs ds gs before) : Lies W before := by
  intro p hp
  refine ⟨hW.lt p hp, ?_⟩
  rintro b o rfl
  obtain ⟨_, _, _, _, _, hfz, _⟩ := hW
  exact hfz b o hp
theorem Lies.left {p q : List MemPlace} (h : Lies W (p ++ q)) : Lies W p := fun x hx => h x (List.mem_append_left _ hx)
theorem Lies.right {p q : List MemPlace} (h : Lies W (p ++ q)) : Lies W q := fun x hx => h x (List.mem_append_right _ hx)
theorem weigh_head {t : TypeId} {ts : List TypeId} {d : DataW H} {ds : List (DataW H)} (h : (DataW.weightsEach P (t :: ts) (d :: ds)).all (· ≤ reachBytes) = true) : (∀ k ∈ d.weights P t, k ≤ reachBytes) ∧ (DataW.weightsEach P ts ds).all (· ≤ reachBytes) = true := by
  simp only [DataW.weightsEach, List.all_append, Bool.and_eq_true, List.all_eq_true, decide_eq_true_eq] at h
  exact ⟨h.1, by simpa using h.2⟩
end

end Go.Proofs.Ytphbacggmhjmgaa
