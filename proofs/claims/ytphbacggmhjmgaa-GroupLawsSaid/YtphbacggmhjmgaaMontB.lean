/- The layer mont, second part: numbers with all digits of the modulus. -/
import Derived.Test.YtphbacggmhjmgaaMontA
import Derived.Test.YtphbacggmhjmgaaPlMont
namespace Go.Proofs.Ytphbacggmhjmgaa
open Go.RowKit

/-- how many digits count -/
def limbs (m : Nat) : Nat := (bitLen m + 63) / 64
theorem limbs_le_iff {m l : Nat} : limbs m ≤ l ↔ m < B64 ^ l := by
  have e : B64 ^ l = 2 ^ (64 * l) := by rw [Nat.pow_mul]; rfl
  rw [e, ← bitLen_le_iff]
  unfold limbs
  omega
theorem canon_limbs {xs : List Nat} (hd : Pl.Dig B64 xs) (hc : Pl.Canon xs) : xs.length = limbs (Pl.val B64 xs) := by
  have h1 := fun l => Pl.canon_len_le (n := l) B64_gt hd hc
  have h2 := (h1 xs.length).1 (Nat.le_refl _)
  have h3 := limbs_le_iff.2 h2
  have h4 := (h1 (limbs (Pl.val B64 xs))).2 (limbs_le_iff.1 (Nat.le_refl _))
  omega
theorem mod_limbs {m : Nat} {x : List Nat × Nat × Nat} (hd : Pl.Dig B64 x.1) (h : ModOk m x) : x.1.length = limbs m := by
  rw [canon_limbs hd h.canon, h.val]

/-- a number of so many digits -/
def WideN (n : Nat) : Rep Nat := NatS.ex fun v xs => xs.length = n ∧ Pl.val B64 xs = v

theorem splice_wide {k : IntKind} {n : Nat} {xs : List Nat} : splice (zerosOf (.int k 0) n).toList 0 (nums k xs) = nums k (xs ++ List.replicate (n - xs.length) 0) := by
  rw [zerosOf_num]
  simp only [splice, List.take_zero, List.nil_append, Nat.zero_add, nums_length]
  simp only [nums, ← List.map_drop, List.drop_replicate, List.map_append]

theorem wide_calls {w : World} {S T : Nat → Prop} {m : Nat} {xs : List Nat} {v va : Value} (hM : ModP.rep S w m [v]) (ha : NatS.rep T w xs [va]) (n : Nat) (hn : Hid (n = limbs m)) (hx : xs.length ≤ n) :
    Calls Try.prog 68 #[v, va] w fun e w' => (∃ u, e = .returned u ∧ (WideN n).rep (Fresh w w') w' (Pl.val B64 xs) [u]) ∧ Below w.heap.size w w' := by
  obtain ⟨g, A, cap, inv, tv, ms, rfl, hS, c0, c1, c2, hms, hinv, htv, hcap, hcm, hpos, hok⟩ := mod_open hM
  have hml : ms.length = n := (mod_limbs (num_dig hms) hok).trans hn.out.symm
  rw [hml] at c0 hcap
  have hn32 : n ≤ 32 := by rw [← hml]; exact hok.len
  obtain ⟨A', cap', rfl, hc', hm'⟩ := sl_open ha
  have hmk : ∀ W : World, (Instr.makeSlice 24 (.int .i64 (n : Int)) (.int .i64 (n : Int))).run Try.prog W = .ok (.slice (some ⟨W.heap.size, 0, none⟩) n n) (W.alloc (.cells (zerosOf (.int .u64 0) n) 65)) := fun W => run_make_u64 n (by omega) W
  have hb := below_alloc (Below.refl w.heap.size w) (.cells (zerosOf (.int .u64 0) n) 65)
  have ha1 := (Rep.num .u64 B64).sl.below ha hb
  have hrow := Row.new w 65 (zerosOf (.int .u64 0) n)
  have hd := num_dig ha
  have hone : ∀ v ∈ nums .u64 xs, v.oneCell' = true := by
    intro v hv
    obtain ⟨a, _, rfl⟩ := List.mem_map.1 hv
    rfl
  have hsrc : 0 < (nums .u64 xs).length → (some ⟨w.heap.size, 0, none⟩ : Option Addr) = some ⟨w.heap.size, 0, none⟩ ∧ ∃ ad, A' = some ad ∧ ∀ j u, (nums .u64 xs)[j]? = some u → (w.alloc (.cells (zerosOf (.int .u64 0) n) 65)).cell? (ad.add j) = some u := by
    intro hp
    rw [nums_length] at hp
    obtain ⟨b2, o2, ys, rfl, hb2, hat2, hrl2⟩ := sl_cells ha1 hp
    obtain ⟨rfl, _⟩ := repL_num.1 hrl2
    refine ⟨rfl, _, rfl, fun j u hu => ?_⟩
    obtain ⟨hj, rfl⟩ := List.getElem?_eq_some_iff.1 hu
    have ha : (⟨b2, o2, none⟩ : Addr).add j = ⟨b2, o2 + j, none⟩ := by unfold Addr.add; split <;> simp_all
    rw [ha]
    exact hat2.cell j hj
  have hlen : (nums .u64 xs).length = Nat.min xs.length n := by rw [nums_length]; exact (Nat.min_eq_left hx).symm
  have hfit : 0 + (nums .u64 xs).length ≤ (zerosOf (.int .u64 0) n).toList.length := by rw [nums_length, zerosOf_toList, List.length_replicate]; omega
  have Hml := hid hml
  have Hlen := hid hlen
  clear hml hlen hM hms htv hok hn
  go_enter Try.func68, Try.ntmps68
  go_upto_region 2 with (fail)
  apply wp_region_lit
  iterate 6 go_step
  refine wpList_copy_splice rfl _ _ 24 24 rfl 65 Try.underlying24 size65 (some ⟨w.heap.size, 0, none⟩) A' n n xs.length cap' (by rfl) (by rfl) w.heap.size 0 (zerosOf (.int .u64 0) n).toList 65 hrow (nums .u64 xs) Hlen.out hsrc hfit hone w.heap.size w hb (Nat.le_refl _) ?_
  intro w' hr hB
  have hr' : Row w' w.heap.size 65 (nums .u64 (xs ++ List.replicate (n - xs.length) 0)) := by
    have := hr.out
    rw [splice_wide] at this
    exact this
  have hln : (xs ++ List.replicate (n - xs.length) 0).length = n := by simp; omega
  have hsl := hr'.slNum (S := Fresh w w') ⟨Nat.le_refl _, hr'.lt⟩ (hd.append (Pl.Dig.replicate B64_pos _)) n (by omega) (by omega) (by omega)
  rw [hln] at hsl
  have hv : Pl.val B64 (xs ++ List.replicate (n - xs.length) 0) = Pl.val B64 xs := by rw [Pl.val_append, Pl.val_replicate]; simp
  have Hln := hid hln
  have Hv := hid hv
  clear hr hr' hln hv
  go_wp2
  go_ret
  exact ⟨⟨_, rfl, _, hsl, Hln.out, Hv.out⟩, hB⟩

end Go.Proofs.Ytphbacggmhjmgaa
