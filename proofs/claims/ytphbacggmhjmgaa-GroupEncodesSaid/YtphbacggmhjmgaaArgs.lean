/- The frame of a law, and its arguments. -/
import Derived.Test.YtphbacggmhjmgaaRows
import Derived.WalkKit
import Derived.ProofKit
import Derived.OpenShut
import Derived.Carry
import Derived.Test.YtphbacggmhjmgaaReads

/- The frame of a law's proof: what was there is as it was, so each argument reads as it read. -/
namespace Go.Proofs.Ytphbacggmhjmgaa
open Go.ChangeShapes Go.WideShapes Go.ChangeAt Go.RowKit

section
variable {H : Type} {enc : TypeId × Value → H} {P : Program}

theorem trodAll_stays (hl : laidOutB P = true) {W W' : World} {sp : Nat → Bool} : ∀ {ts : List TypeId} {vs : List Value} {ds : List (DataW H)} {ps : List MemPlace}, (∀ t ∈ ts, P.readableRec t = true ∧ t < P.types.size) → DataW.TrodAll enc P W 0 (fun _ => true) true ts vs ds ps →
    Below W.heap.size W W' → (∀ x ∈ ps, x.block < W.heap.size) → (∀ x ∈ ps, sp x.block = true) → DataW.TrodAll enc P W' 0 sp true ts vs ds ps
  | [], _, _, _, _, h, _, _, _ => by
    obtain ⟨rfl, rfl, rfl⟩ := trodAll_nil h
    exact h
  | t :: ts, _, _, _, hr, h, hb, hlt, hs => by
    obtain ⟨v, vs, d, ds, a, b, rfl, rfl, rfl, h1, h2⟩ := trodAll_cons h
    have ht := hr t (by simp)
    exact ⟨a, b, WideElems.Trod_stays hl ht.1 ht.2 h1 (fun x hx => hb.same (hlt x (List.mem_append.2 (.inl hx)))) (fun x hx => hs x (List.mem_append.2 (.inl hx))),
      trodAll_stays hl (fun t ht => hr t (by simp [ht])) h2 hb (fun x hx => hlt x (List.mem_append.2 (.inr hx))) (fun x hx => hs x (List.mem_append.2 (.inr hx))), rfl⟩

/-- A law that returns true and turns nothing that was there. -/
theorem law_post {f : Func} {s : ChangeSpec} {apart fresh handsOn again : Bool} {W W' : World} {args : Array Value} {ds gs : List (DataW H)} {before : List MemPlace} {tb : TypeId}
    (hW : DataW.Whole enc P f.params.toList s.vars apart W args.toList ds gs before) (hv : s.vars = []) (hb : Below W.heap.size W W') (hl : laidOutB P = true) (hr : ∀ t ∈ f.params.toList, P.readableRec t = true ∧ t < P.types.size)
    (hrt : f.resultTypes = #[tb]) (htb : P.underlying tb = some .bool) (hs : s.fn H (ds ++ gs) = { results := [.lit (.bool true)], args := ds }) :
    s.post enc P f apart fresh handsOn again W args (.bool true) W' := by
  obtain ⟨p, q, hA, hV, rfl, hfz, hnd⟩ := id hW
  rw [hv] at hV
  obtain ⟨rfl, rfl, rfl⟩ := trodVars_none hV
  have hlt : ∀ x ∈ p ++ [], x.block < W.heap.size := fun x hx => hW.lt x hx
  simp only [List.append_nil] at hlt hs
  have hargs : ∀ sp : Nat → Bool, (∀ x ∈ p, sp x.block = true) → DataW.TrodAll enc P W' 0 sp true f.params.toList args.toList ds p := fun sp hsp => trodAll_stays hl hr hA hb hlt hsp
  have hres : ∀ (b : Nat) (sp : Nat → Bool) (hd : Bool), DataW.TrodAll enc P W' b sp hd f.resultTypes.toList ((Value.bool true).resultList f.resultTypes.size) [.lit (.bool true)] [] := fun b sp hd => by
    rw [hrt]; exact trodAll_cons_mk (shut_bool htb _) trodAll_mk0
  have hold : ∀ x ∈ p, (fun b => decide (b < W.heap.size)) x.block = true := fun x hx => by simpa using hlt x hx
  refine ⟨ds, [], p ++ [], [], p, [], hW, ?_, ?_, ?_, World.keptBut_mono (fun x hx => ⟨hx, ?_⟩) (hb.frame _), fun _ => ?_⟩
  · rw [List.append_nil, hs]; exact hres _ _ _
  · rw [List.append_nil, hs]; exact hargs _ hold
  · rw [List.append_nil, hs, hv]; rfl
  · exact Or.inr (by simpa using hx)
  · refine ⟨ok_one hrt rfl (okWide_bool_mk htb _), [.lit (.bool true)] ++ ds, [], ([] ++ p) ++ [], ⟨[] ++ p, [], trodAll_append (hargs _ (fun _ _ => rfl)) (hres _ _ _), ?_, rfl, ?_, ?_⟩, ?_⟩
    · rw [hv]; exact hV
    · intro b off hp
      have hp' : MemPlace.cell b off ∈ p := by simpa using hp
      rw [hb.frozen (p := ⟨b, off, none⟩) (hlt _ hp')]
      exact hfz b off (by simpa using hp)
    · intro ha
      simpa using hnd ha
    · intro x hx _
      simpa using hx
end

end Go.Proofs.Ytphbacggmhjmgaa

/- From a law's arguments, as the row has them, to what their cells read as. -/
namespace Go.Proofs.Ytphbacggmhjmgaa
open Go.ChangeShapes Go.WideShapes Go.ChangeAt Go.RowKit

theorem int_range {n : Int} (h : (Lit.int .i64 n).wf = true) : -9223372036854775808 ≤ n ∧ n ≤ 9223372036854775807 := by
  simp only [Lit.wf, Bool.and_eq_true, decide_eq_true_eq] at h
  have h1 : IntKind.min .i64 = -9223372036854775808 := rfl
  have h2 : IntKind.max .i64 = 9223372036854775807 := rfl
  omega

section
variable {H : Type} {enc : TypeId × Value → H} {P : Program} {W : World}

theorem arg_reads {α : Type} {t : TypeId} {r : Rep α} (hR : Reads P t r) {v : Value} {d : DataW H} {p : List MemPlace} (h : DataW.Trod enc P W 0 (fun _ => true) true t v d p) (hl : Lies W p) (hw : ∀ k ∈ d.weights P t, k ≤ reachBytes) :
    ∃ a, r.rep (· < W.heap.size) W a v.cells.toList := by
  obtain ⟨n, hn⟩ := h
  exact hR H enc W n _ (d, p) hn hl hw
theorem arg_slice {α : Type} {t e : TypeId} {r : Rep α} (ht : P.underlying t = some (.slice e)) (hR : Reads P t r.sl) {rc : Reach} {b : Nat} {v : Value} (hv : Value.okWide P W rc b t v) {d : DataW H} {p : List MemPlace} (h : DataW.Trod enc P W 0 (fun _ => true) true t v d p) (hl : Lies W p) (hw : ∀ k ∈ d.weights P t, k ≤ reachBytes) :
    ∃ a, r.sl.rep (· < W.heap.size) W a [v] := by
  obtain ⟨A, len, cap, rfl⟩ := okWide_slice ht hv
  exact arg_reads hR h hl hw

theorem whole_lies {ts : List TypeId} {vars : List String} {apart : Bool} {vs : List Value} {ds gs : List (DataW H)} {before : List MemPlace} (hW : DataW.Whole enc P ts vars apart W vs ds gs before) : Lies W before := by
  intro p hp
  refine ⟨hW.lt p hp, ?_⟩
  rintro b o rfl
  obtain ⟨_, _, _, _, _, hfz, _⟩ := hW
  exact hfz b o hp
theorem Lies.left {p q : List MemPlace} (h : Lies W (p ++ q)) : Lies W p := fun x hx => h x (List.mem_append_left _ hx)
theorem Lies.right {p q : List MemPlace} (h : Lies W (p ++ q)) : Lies W q := fun x hx => h x (List.mem_append_right _ hx)
theorem weigh_head {t : TypeId} {ts : List TypeId} {d : DataW H} {ds : List (DataW H)} (h : (DataW.weightsEach P (t :: ts) (d :: ds)).all (· ≤ reachBytes) = true) : (∀ k ∈ d.weights P t, k ≤ reachBytes) ∧ (DataW.weightsEach P ts ds).all (· ≤ reachBytes) = true := by
  simp only [DataW.weightsEach, List.all_append, Bool.and_eq_true, List.all_eq_true, decide_eq_true_eq] at h
  exact ⟨h.1, by simpa using h.2⟩
end

end Go.Proofs.Ytphbacggmhjmgaa
