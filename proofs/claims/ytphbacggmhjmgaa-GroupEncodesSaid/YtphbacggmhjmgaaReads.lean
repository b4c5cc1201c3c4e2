/- From 'the argument can be read as data' to 'these cells read as this', kind by kind. -/
import Derived.Test.YtphbacggmhjmgaaMem
import Derived.Deep.Slices
import Derived.Deep.Fields
import Derived.Lib.LaidU8
import Derived.ChangeSame
namespace Go.Proofs.Ytphbacggmhjmgaa
open Go.ChangeShapes Go.WideShapes Go.Deep Go.RowKit

/-- The places of a reading are there and may be written. -/
def Lies (w : World) (ps : List MemPlace) : Prop := ∀ p ∈ ps, p.block < w.heap.size ∧ ∀ b o, p = .cell b o → w.frozen? ⟨b, o, none⟩ = false

/-- What can be read as data of type t reads as some a of r. -/
def Reads {α : Type} (P : Program) (t : TypeId) (r : Rep α) : Prop :=
  ∀ (H : Type) (enc : TypeId × Value → H) (w : World) (n : Nat) (cs : List Value) (x : DataW H × List MemPlace), DataW.trod enc P w 0 (fun _ => true) true n t cs = some x → Lies w x.2 → (∀ k ∈ x.1.weights P t, k ≤ reachBytes) →
    ∃ a, r.rep (· < w.heap.size) w a cs

theorem wf_range {k : IntKind} {n : Int} (h : (Lit.int k n).wf = true) : k.min ≤ n ∧ n ≤ k.max := by
  simpa [Lit.wf] using h

theorem reads_num {P : Program} {t : TypeId} {k : IntKind} {B : Nat} (ht : P.underlying t = some (.int k)) (h0 : k.min = 0) (hB : k.max < (B : Int)) : Reads P t (Rep.num k B) := by
  intro H enc w n cs x h _ _
  obtain ⟨m, rfl, _, hw⟩ := DataW.trod_int ht h
  have := wf_range hw
  exact ⟨m.toNat, by rw [Int.toNat_of_nonneg (by omega)], by omega⟩
theorem reads_int {P : Program} {t : TypeId} (ht : P.underlying t = some (.int .i64)) : Reads P t Rep.int := by
  intro H enc w n cs x h _ _
  obtain ⟨m, rfl, _, hw⟩ := DataW.trod_int ht h
  have := wf_range hw
  have h1 : IntKind.min .i64 = -9223372036854775808 := rfl
  have h2 : IntKind.max .i64 = 9223372036854775807 := rfl
  exact ⟨m, rfl, by omega, by omega⟩
theorem reads_bool {P : Program} {t : TypeId} (ht : P.underlying t = some .bool) : Reads P t Rep.bool := by
  intro H enc w n cs x h _ _
  obtain ⟨b, rfl, _⟩ := DataW.trod_bool ht h
  exact ⟨b, rfl⟩
theorem reads_via {α β : Type} {P : Program} {t : TypeId} {r : Rep α} (f : β → α) (g : α → β) (hfg : ∀ a, f (g a) = a) (h : Reads P t r) : Reads P t (r.via f) := by
  intro H enc w n cs x hx hl hw
  obtain ⟨a, ha⟩ := h H enc w n cs x hx hl hw
  exact ⟨g a, by show r.rep _ _ (f (g a)) _; rw [hfg]; exact ha⟩
theorem reads_ex {α β : Type} {P : Program} {t : TypeId} {r : Rep α} {p : β → α → Prop} (g : α → β) (hg : ∀ a, p (g a) a) (h : Reads P t r) : Reads P t (r.ex p) := by
  intro H enc w n cs x hx hl hw
  obtain ⟨a, ha⟩ := h H enc w n cs x hx hl hw
  exact ⟨g a, a, ha, hg a⟩

theorem weightsAll_mem {H : Type} {P : Program} {e : TypeId} {l : List (DataW H)} {d : DataW H} (hd : d ∈ l) : ∀ k ∈ d.weights P e, k ∈ DataW.weightsAll P e l := by
  induction l with
  | nil => cases hd
  | cons a l ih =>
    intro k hk
    simp only [DataW.weightsAll, List.mem_append]
    rcases List.mem_cons.1 hd with rfl | hd
    · exact .inl hk
    · exact .inr (ih hd k hk)

theorem repL_of {α : Type} {r : Rep α} {S : Nat → Prop} {w : World} (L : Nat) (cs : List Value) (hl : cs.length = L * r.sz) (h : ∀ i, i < L → ∃ a, r.rep S w a ((cs.drop (i * r.sz)).take r.sz)) : ∃ xs : List α, xs.length = L ∧ RepL r S w xs cs := by
  induction L generalizing cs with
  | zero => exact ⟨[], rfl, by have h0 : cs = [] := by simpa using hl
                               exact h0⟩
  | succ L ih =>
    obtain ⟨a, ha⟩ := h 0 (by omega)
    rw [Nat.add_mul, Nat.one_mul] at hl
    obtain ⟨xs, hx, hr⟩ := ih (cs.drop r.sz) (by simp; omega) (fun i hi => by
      obtain ⟨a, ha⟩ := h (i + 1) (by omega)
      rw [List.drop_drop]
      rw [Nat.add_mul, Nat.one_mul, Nat.add_comm] at ha
      exact ⟨a, ha⟩)
    refine ⟨a :: xs, by simp [hx], cs.take r.sz, cs.drop r.sz, (List.take_append_drop _ _).symm, by simpa using ha, hr⟩

theorem reads_slice {α : Type} {P : Program} {t e : TypeId} {r : Rep α} (ht : P.underlying t = some (.slice e)) (he : Reads P e r) (hsz : P.cellsOf e = r.sz) (hby : P.bytesOf e = r.by_) (hpos : 0 < r.sz) : Reads P t r.sl := by
  intro H enc w n cs x h hl hw
  rcases open_slice ht h with ⟨rfl, _⟩ | ⟨a, len, cap, m, n, D, Q, rfl, _, hlc, hm, hmm, rfl, hi⟩
  · exact ⟨[], sl_nil _ _ _⟩
  · simp only [if_true] at hmm
    subst hmm
    have hw0 : m * r.by_ ≤ reachBytes := by
      have := hw (((List.range len).map D).length * P.bytesOf e + ((List.range (m - len)).map fun j => D (len + j)).length * P.bytesOf e) (by
        simp only [DataW.weights, ht]
        rw [← Nat.add_mul]
        simp)
      rw [← Nat.add_mul, hby] at this
      simpa [show len + (m - len) = m by omega] using this
    have hw1 : ∀ i, i < len → ∀ k ∈ (D i).weights P e, k ≤ reachBytes := by
      intro i hi k hk
      refine hw k ?_
      simp only [DataW.weights, ht]
      refine List.mem_cons_of_mem _ (List.mem_append_left _ (weightsAll_mem (List.mem_map.2 ⟨i, by simpa using hi, rfl⟩) k hk))
    have hbl : len * r.by_ ≤ 140737488355328 := by
      have : len * r.by_ ≤ m * r.by_ := Nat.mul_le_mul_right _ hlc
      unfold reachBytes at hw0
      omega
    rcases Nat.eq_zero_or_pos len with rfl | hpl
    · exact ⟨[], sl_empty _ _ _ _ _ (by simpa [maxLen] using hm)⟩
    · rw [hsz] at hi hl
      have hspot : a.spot = none := by
        obtain ⟨cs', hc, _⟩ := hi 0 (by omega)
        obtain ⟨_, _, hat⟩ := World.cells?_some hc
        have h0 := hat 0 hpos
        obtain ⟨b, o, sp⟩ := a
        have hv : ∃ v, w.cell? ⟨b, o, sp⟩ = some v := by
          obtain ⟨_, hln, _⟩ := World.cells?_some hc
          refine ⟨cs'[0]'(by omega), ?_⟩
          rw [List.getElem?_eq_getElem (by omega)] at h0
          rw [← h0]
          unfold Addr.add
          split <;> simp_all
        obtain ⟨v, hv⟩ := hv
        exact Go.Proofs.cell_spot hv
      obtain ⟨b, o, sp⟩ := a
      obtain rfl : sp = none := hspot
      have hadd : ∀ i, (⟨b, o, none⟩ : Addr).add i = ⟨b, o + i, none⟩ := by intro i; unfold Addr.add; split <;> simp_all
      have hcell : ∀ j, j < len * r.sz → ∃ v, w.cell? ⟨b, o + j, none⟩ = some v := by
        intro j hj
        have h1 : j / r.sz < len := (Nat.div_lt_iff_lt_mul hpos).2 hj
        have h2 := Nat.mod_lt j hpos
        obtain ⟨cs', hc, _⟩ := hi (j / r.sz) (by omega)
        obtain ⟨_, hln, hat⟩ := World.cells?_some hc
        have h3 := hat (j % r.sz) h2
        rw [hadd, List.getElem?_eq_getElem (by omega)] at h3
        have e : (⟨b, o + j / r.sz * r.sz, none⟩ : Addr).add (j % r.sz) = ⟨b, o + j, none⟩ := by
          have := Nat.div_add_mod j r.sz
          rw [Nat.mul_comm] at this
          unfold Addr.add
          split <;> simp_all <;> omega
        rw [e] at h3
        exact ⟨_, h3⟩
      let ys : List Value := (List.range (len * r.sz)).map fun j => (w.cell? ⟨b, o + j, none⟩).getD undef
      have hyl : ys.length = len * r.sz := by simp [ys]
      have hya : ∀ j (h : j < ys.length), w.cell? ⟨b, o + j, none⟩ = some ys[j] := by
        intro j h
        obtain ⟨v, hv⟩ := hcell j (by omega)
        simp [ys, hv]
      have hplace : ∀ j, j < len * r.sz → MemPlace.cell b (o + j) ∈ MemPlace.row ⟨b, o, none⟩ (m * r.sz) ++ (List.range m).flatMap Q := by
        intro j hj
        refine List.mem_append_left _ (List.mem_map.2 ⟨j, ?_, rfl⟩)
        have : len * r.sz ≤ m * r.sz := Nat.mul_le_mul_right _ hlc
        simp; omega
      have hfr : ∀ j, j < len * r.sz → w.frozen? ⟨b, o + j, none⟩ = false := fun j hj => (hl _ (hplace j hj)).2 _ _ rfl
      have hbs : b < w.heap.size := by
        have := (hl _ (hplace 0 (Nat.mul_pos hpl hpos))).1
        exact this
      have helem : ∀ i, i < len → ∃ a, r.rep (· < w.heap.size) w a ((ys.drop (i * r.sz)).take r.sz) := by
        intro i hil
        obtain ⟨cs', hc, ht'⟩ := hi i (by omega)
        obtain ⟨_, hln, hat⟩ := World.cells?_some hc
        have e : cs' = (ys.drop (i * r.sz)).take r.sz := by
          have hle : (i + 1) * r.sz ≤ len * r.sz := Nat.mul_le_mul_right _ hil
          rw [Nat.add_mul, Nat.one_mul] at hle
          apply List.ext_getElem
          · simp [hyl, hln]; omega
          · intro j h1 h2
            have h3 := hat j (by omega)
            rw [hadd, List.getElem?_eq_getElem h1] at h3
            have e2 : (⟨b, o + i * r.sz, none⟩ : Addr).add j = ⟨b, o + (i * r.sz + j), none⟩ := by
              unfold Addr.add; split <;> simp_all [Nat.add_assoc]
            rw [e2, hya (i * r.sz + j) (by omega)] at h3
            simp only [Option.some.injEq] at h3
            simp [← h3]
        rw [← e]
        exact he H enc w n cs' _ ht' (fun p hp => hl p (List.mem_append_right _ (List.mem_flatMap.2 ⟨i, by simp; omega, hp⟩))) (hw1 i hil)
      obtain ⟨xs, hxl, hr⟩ := repL_of len ys hyl helem
      refine ⟨xs, some ⟨b, o, none⟩, m, ys, by rw [hxl], by omega, ⟨by simpa [maxLen] using hm, by rw [hxl]; exact hbl⟩, fun _ => ⟨b, o, rfl, hbs, hbs, fun j hj => ⟨hya j hj, hfr j (by omega)⟩⟩, hr⟩

/-- Fields, from a place on. -/
def ReadsF {α : Type} (P : Program) (fs : List Field) (o : Nat) (r : Rep α) : Prop :=
  ∀ (H : Type) (enc : TypeId × Value → H) (w : World) (n : Nat) (cs : List Value) (xs : List (DataW H × List MemPlace)), cs.length = o + r.sz → xs.length = fs.length →
    (∀ (i : Nat) (f : Field), fs[i]? = some f → DataW.trod enc P w 0 (fun _ => true) true n f.type ((cs.drop f.offset).take (P.cellsOf f.type)) = xs[i]?) → Lies w (xs.flatMap (·.2)) →
    (∀ k ∈ DataW.weightsEach P (fs.map (·.type)) (xs.map (·.1)), k ≤ reachBytes) → ∃ a, r.rep (· < w.heap.size) w a (cs.drop o)

theorem readsF_one {α : Type} {P : Program} {f : Field} {o : Nat} {r : Rep α} (h : Reads P f.type r) (ho : f.offset = o) (hc : P.cellsOf f.type = r.sz) : ReadsF P [f] o r := by
  intro H enc w n cs xs hl hx ht hp hw
  obtain ⟨x, rfl⟩ : ∃ x, xs = [x] := List.length_eq_one_iff.1 hx
  have h0 := ht 0 f rfl
  rw [ho, hc, List.take_of_length_le (by simp; omega)] at h0
  exact h H enc w n _ x h0 (fun p hp' => hp p (by simpa using hp')) (fun k hk => hw k (by simp only [List.map_cons, List.map_nil, DataW.weightsEach]; exact List.mem_append_left _ hk))
theorem readsF_cons {α β : Type} {P : Program} {f : Field} {fs : List Field} {o : Nat} {r : Rep α} {s : Rep β} (h : Reads P f.type r) (ho : f.offset = o) (hc : P.cellsOf f.type = r.sz) (k : ReadsF P fs (o + r.sz) s) : ReadsF P (f :: fs) o (r.pair s) := by
  intro H enc w n cs xs hl hx ht hp hw
  obtain _ | ⟨x, xs⟩ := xs
  · simp at hx
  have hl' : cs.length = o + (r.sz + s.sz) := hl
  have h0 := ht 0 f rfl
  rw [ho, hc] at h0
  obtain ⟨a, ha⟩ := h H enc w n _ x h0 (fun p hp' => hp p (by simp [hp'])) (fun k hk => hw k (by simp only [List.map_cons, DataW.weightsEach]; exact List.mem_append_left _ hk))
  obtain ⟨b, hb⟩ := k H enc w n cs xs (by omega) (by simpa using hx) (fun i f hf => ht (i + 1) f hf) (fun p hp' => hp p (by simp only [List.flatMap_cons]; exact List.mem_append_right _ hp')) (fun k hk => hw k (by simp only [List.map_cons, DataW.weightsEach]; exact List.mem_append_right _ hk))
  refine ⟨(a, b), (cs.drop o).take r.sz, cs.drop (o + r.sz), ?_, ha, hb⟩
  rw [← List.drop_drop, List.take_append_drop]
theorem reads_struct {α : Type} {P : Program} {t : TypeId} {fs : List Field} {r : Rep α} (ht : P.underlying t = some (.struct fs.toArray)) (h : ReadsF P fs 0 r) (hc : P.cellsOf t = r.sz) : Reads P t r := by
  intro H enc w n cs x hx hl hw
  obtain ⟨xs, m, rfl, rfl, hcl, hxl, hf⟩ := DataW.trod_struct ht hx
  have := h H enc w m cs xs (by omega) (by simpa using hxl) (fun i f hf' => hf i f (by simpa using hf')) hl (fun k hk => hw k (by simp only [DataW.weights, ht]; simpa using hk))
  simpa using this

end Go.Proofs.Ytphbacggmhjmgaa
