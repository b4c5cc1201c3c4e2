/- Strings of bytes; slices that were made one behind the other. -/
import Derived.Test.YtphbacggmhjmgaaNatJ
import Derived.Test.YtphbacggmhjmgaaKnownA
import Derived.Test.YtphbacggmhjmgaaLaw
import Derived.Laws.IdiomStrings
namespace Go.Proofs.Ytphbacggmhjmgaa
open Go.RowKit

/-- bytes as a string -/
def bstr (xs : List Nat) : ByteArray := ⟨(xs.map UInt8.ofNat).toArray⟩
theorem bstr_inj {xs ys : List Nat} (hx : Pl.Dig 256 xs) (hy : Pl.Dig 256 ys) : bstr xs = bstr ys ↔ xs = ys := by
  constructor
  · intro h
    have h1 : (bstr xs).data = (bstr ys).data := congrArg ByteArray.data h
    have h2 : xs.map UInt8.ofNat = ys.map UInt8.ofNat := List.toArray_inj h1
    have h3 := congrArg (List.map UInt8.toNat) h2
    simp only [List.map_map] at h3
    have e : ∀ {zs : List Nat}, Pl.Dig 256 zs → zs.map (UInt8.toNat ∘ UInt8.ofNat) = zs := by
      intro zs hz
      conv => rhs; rw [← List.map_id zs]
      apply List.map_congr_left
      intro a ha
      have := hz a ha
      simp only [Function.comp_apply, id_eq, UInt8.toNat_ofNat']
      exact Nat.mod_eq_of_lt this
    rw [e hx, e hy] at h3
    exact h3
  · rintro rfl; rfl
theorem str_run {S : Nat → Prop} {w : World} {xs : List Nat} {v : Value} (h : ByteS.rep S w xs [v]) : (convert 22 9 v).run Try.prog w = .ok (.string (bstr xs)) w := by
  have hd := num_dig h
  obtain ⟨A, cap, rfl, hcap, hcm⟩ := sl_open h
  rcases Nat.eq_zero_or_pos xs.length with h0 | h0
  · obtain rfl := List.eq_nil_of_length_eq_zero h0
    rw [List.length_nil, run_convert_bytes_string w 22 9 5 A 0 cap Try.underlying22 Try.underlying5 Try.underlying9]
    cases A <;> simp [Conv.bytesToString, loadCells, loadCellsFrom, bstr] <;> rfl
  · obtain ⟨b, o, rfl, _⟩ := num_at h 0 h0
    have hl : (xs.map UInt8.ofNat).length = xs.length := by simp
    rw [← hl]
    refine run_convert_bytes_back w 22 9 5 ⟨b, o, none⟩ cap (xs.map UInt8.ofNat) Try.underlying22 Try.underlying5 Try.underlying9 ?_
    intro j hj
    rw [hl] at hj
    have hc := (num_all h j hj).2
    have ha : (⟨b, o, none⟩ : Addr).add j = ⟨b, o + j, none⟩ := by unfold Addr.add; split <;> simp_all
    rw [ha, hc]
    have := hd.at j hj
    simp only [List.getElem_map, UInt8.toNat_ofNat']
    rw [Nat.mod_eq_of_lt this]

/-- one of many slices of numbers that were made one behind the other -/
theorem lits_nat (w : World) (os : List Obj) {j n : Nat} {ds : List Nat} {x : Nat} (hn : n = ds.length) (hj : j < os.length) (h : os[os.length - 1 - j]? = some (.cells (nums .u64 ds).toArray 65)) (hd : ds.all (fun d => decide (d < B64)) = true) (hl4 : ds.length ≤ 100) (hv : Pl.val B64 ds = x) :
    RawN.rep (Fresh w (revAllocs w os)) (revAllocs w os) x [.slice (some ⟨w.heap.size + j, 0, none⟩) n n] := by
  subst hn
  have hr := revAllocs_row w os j hj h
  have hl := hr.lt
  have hdig : Pl.Dig B64 ds := fun d hm => by simpa using List.all_eq_true.1 hd d hm
  exact ⟨ds, hr.slNum (B := B64) (S := Fresh w _) ⟨Nat.le_add_right _ _, hl⟩ hdig ds.length (Nat.le_refl _) (by omega) (by omega), hv⟩
theorem lits_bytes (w : World) (os : List Obj) {j n : Nat} {ds : List Nat} (hn : n = ds.length) (hj : j < os.length) (h : os[os.length - 1 - j]? = some (.cells (nums .u8 ds).toArray 5)) (hd : ds.all (fun d => decide (d < 256)) = true) (hl4 : ds.length ≤ 100) :
    ByteS.rep (Fresh w (revAllocs w os)) (revAllocs w os) ds [.slice (some ⟨w.heap.size + j, 0, none⟩) n n] := by
  subst hn
  have hr := revAllocs_row w os j hj h
  have hl := hr.lt
  have hdig : Pl.Dig 256 ds := fun d hm => by simpa using List.all_eq_true.1 hd d hm
  exact hr.slNum (B := 256) (S := Fresh w _) ⟨Nat.le_add_right _ _, hl⟩ hdig ds.length (Nat.le_refl _) (by omega) (by omega)

theorem grp_ptr {S : Nat → Prop} {w : World} {x : G4} {v : Value} (h : GrpP.rep S w x [v]) : ∃ b : Nat, v = .pointer (some ⟨b, 0, none⟩) := by
  obtain ⟨b, ds, hv, _⟩ := h
  simp only [List.cons.injEq, and_true] at hv
  exact ⟨b, hv⟩

end Go.Proofs.Ytphbacggmhjmgaa
