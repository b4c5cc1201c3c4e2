/- How data lie in memory: a way to say 'these cells read as this', with the blocks on which that rests; rows of one's own; what a call leaves as it was. -/
import Derived.WalkKit
import Derived.WalkSpells
import Derived.WalkLawsBesides
import Derived.BigQuiet
import Derived.KernelRfl
import Derived.Laws.CopyOwn
import Derived.Laws.OwnMore
import Derived.Laws.MakeOwn
import Derived.Maps.AppendAt
import Derived.LaidEql
import Derived.WideLaws
import Derived.Test.YtphbacggmhjmgaaPlA
namespace Go.Proofs.Ytphbacggmhjmgaa
open Go.RowKit

theorem hid {p : Prop} (h : p) : Hid p := h

/-- The blocks that S names hold what they held. -/
def Same (S : Nat → Prop) (w w' : World) : Prop := ∀ b, S b → w'.heap[b]? = w.heap[b]?

theorem Same.refl (S : Nat → Prop) (w : World) : Same S w w := fun _ _ => rfl
theorem Same.trans {S : Nat → Prop} {a b c : World} (h : Same S a b) (k : Same S b c) : Same S a c := fun i hi => (k i hi).trans (h i hi)
theorem Same.mono {S S' : Nat → Prop} {a b : World} (h : Same S a b) (hs : ∀ i, S' i → S i) : Same S' a b := fun i hi => h i (hs i hi)
theorem Same.cell {S : Nat → Prop} {w w' : World} (h : Same S w w') {b o : Nat} (hb : S b) : w'.cell? ⟨b, o, none⟩ = w.cell? ⟨b, o, none⟩ := World.cell?_of_block (w := w) (h b hb)
theorem Same.of_below {B : Nat} {w w' : World} (h : Below B w w') : Same (· < B) w w' := fun b hb => h.block b hb

/-- Cells in a row. -/
def At (w : World) (b o : Nat) (ys : List Value) : Prop := ∀ j (h : j < ys.length), w.cell? ⟨b, o + j, none⟩ = some ys[j] ∧ w.frozen? ⟨b, o + j, none⟩ = false

theorem Same.frozen {S : Nat → Prop} {w w' : World} (h : Same S w w') {b o : Nat} (hb : S b) : w'.frozen? ⟨b, o, none⟩ = w.frozen? ⟨b, o, none⟩ := World.frozen?_of_block (w := w) (h b hb)
theorem At.same {S : Nat → Prop} {w w' : World} {b o : Nat} {ys : List Value} (h : At w b o ys) (hb : S b) (hs : Same S w w') : At w' b o ys :=
  fun j hj => ⟨(hs.cell hb).trans (h j hj).1, (hs.frozen hb).trans (h j hj).2⟩
theorem At.cell {w : World} {b o : Nat} {ys : List Value} (h : At w b o ys) (j : Nat) (hj : j < ys.length) : w.cell? ⟨b, o + j, none⟩ = some ys[j] := (h j hj).1
theorem At.seg {w : World} {b o : Nat} {ys : List Value} (h : At w b o ys) (i n : Nat) : At w b (o + i) ((ys.drop i).take n) := by
  intro j hj
  simp only [List.length_take, List.length_drop] at hj
  have := h (i + j) (by omega)
  simp only [List.getElem_take, List.getElem_drop, Nat.add_assoc]
  exact this
theorem At.drop {w : World} {b o : Nat} {ys : List Value} (h : At w b o ys) (i : Nat) : At w b (o + i) (ys.drop i) := by
  intro j hj
  simp only [List.length_drop] at hj
  have := h (i + j) (by omega)
  simp only [List.getElem_drop, Nat.add_assoc]
  exact this
theorem At.take {w : World} {b o : Nat} {ys : List Value} (h : At w b o ys) (n : Nat) : At w b o (ys.take n) := by
  intro j hj
  simp only [List.length_take] at hj
  simpa using h j (by omega)

/-- A kind of data: how many cells a datum takes, and which cells say it; S names the blocks on which that rests. -/
structure Rep (α : Type) where
  sz : Nat
  by_ : Nat
  rep : (Nat → Prop) → World → α → List Value → Prop
  len : ∀ {S w x cs}, rep S w x cs → cs.length = sz
  one : ∀ {S w x cs}, rep S w x cs → ∀ c ∈ cs, c.oneCell' = true
  mono : ∀ {S S' w w' x cs}, rep S w x cs → (∀ b, S b → S' b) → Same S w w' → rep S' w' x cs
  live : ∀ {S w x cs}, rep S w x cs → rep (fun b => S b ∧ b < w.heap.size) w x cs

/-- Whole numbers of a kind, below a bound. -/
def Rep.num (k : IntKind) (B : Nat) : Rep Nat where
  sz := 1
  by_ := match k with | .u8 => 1 | _ => 8
  rep _ _ n cs := cs = [.int k (n : Int)] ∧ n < B
  len h := by rw [h.1]; rfl
  one h := by rw [h.1]; simp [Value.oneCell']
  mono h _ _ := h
  live h := h

def Rep.int : Rep Int where
  sz := 1
  by_ := 8
  rep _ _ n cs := cs = [.int .i64 n] ∧ -9223372036854775808 ≤ n ∧ n ≤ 9223372036854775807
  len h := by rw [h.1]; rfl
  one h := by rw [h.1]; simp [Value.oneCell']
  mono h _ _ := h
  live h := h

def Rep.bool : Rep Bool where
  sz := 1
  by_ := 8
  rep _ _ n cs := cs = [.bool n]
  len h := by rw [h]; rfl
  one h := by rw [h]; simp [Value.oneCell']
  mono h _ _ := h
  live h := h

/-- One behind the other. -/
def Rep.pair {α β : Type} (r : Rep α) (s : Rep β) : Rep (α × β) where
  sz := r.sz + s.sz
  by_ := r.by_ + s.by_
  rep S w x cs := ∃ a b, cs = a ++ b ∧ r.rep S w x.1 a ∧ s.rep S w x.2 b
  len h := by obtain ⟨a, b, rfl, ha, hb⟩ := h; rw [List.length_append, r.len ha, s.len hb]
  one h := by
    obtain ⟨a, b, rfl, ha, hb⟩ := h
    intro c hc
    rcases List.mem_append.1 hc with hc | hc
    · exact r.one ha c hc
    · exact s.one hb c hc
  mono h hS hw := by obtain ⟨a, b, rfl, ha, hb⟩ := h; exact ⟨a, b, rfl, r.mono ha hS hw, s.mono hb hS hw⟩
  live h := by obtain ⟨a, b, rfl, ha, hb⟩ := h; exact ⟨a, b, rfl, r.live ha, s.live hb⟩

/-- Seen through a function. -/
def Rep.via {α β : Type} (f : β → α) (r : Rep α) : Rep β where
  sz := r.sz
  by_ := r.by_
  rep S w x cs := r.rep S w (f x) cs
  len h := r.len h
  one h := r.one h
  mono h hS hw := r.mono h hS hw
  live h := r.live h

/-- What some datum with a property says. -/
def Rep.ex {α β : Type} (r : Rep α) (p : β → α → Prop) : Rep β where
  sz := r.sz
  by_ := r.by_
  rep S w x cs := ∃ y, r.rep S w y cs ∧ p x y
  len h := by obtain ⟨y, h, _⟩ := h; exact r.len h
  one h := by obtain ⟨y, h, _⟩ := h; exact r.one h
  mono h hS hw := by obtain ⟨y, h, hp⟩ := h; exact ⟨y, r.mono h hS hw, hp⟩
  live h := by obtain ⟨y, h, hp⟩ := h; exact ⟨y, r.live h, hp⟩

/-- Data in a row. -/
def RepL {α : Type} (r : Rep α) (S : Nat → Prop) (w : World) : List α → List Value → Prop
  | [], cs => cs = []
  | x :: xs, cs => ∃ a b, cs = a ++ b ∧ r.rep S w x a ∧ RepL r S w xs b

theorem RepL.len {α : Type} {r : Rep α} {S : Nat → Prop} {w : World} {xs : List α} {cs : List Value} (h : RepL r S w xs cs) : cs.length = xs.length * r.sz := by
  induction xs generalizing cs with
  | nil => cases h; simp
  | cons x xs ih => obtain ⟨a, b, rfl, ha, hb⟩ := h; rw [List.length_append, r.len ha, ih hb, List.length_cons, Nat.add_mul]; omega
theorem RepL.one {α : Type} {r : Rep α} {S : Nat → Prop} {w : World} {xs : List α} {cs : List Value} (h : RepL r S w xs cs) : ∀ c ∈ cs, c.oneCell' = true := by
  induction xs generalizing cs with
  | nil => cases h; simp
  | cons x xs ih =>
    obtain ⟨a, b, rfl, ha, hb⟩ := h
    intro c hc
    rcases List.mem_append.1 hc with hc | hc
    · exact r.one ha c hc
    · exact ih hb c hc
theorem RepL.mono {α : Type} {r : Rep α} {S S' : Nat → Prop} {w w' : World} {xs : List α} {cs : List Value} (h : RepL r S w xs cs) (hS : ∀ b, S b → S' b) (hw : Same S w w') : RepL r S' w' xs cs := by
  induction xs generalizing cs with
  | nil => exact h
  | cons x xs ih => obtain ⟨a, b, rfl, ha, hb⟩ := h; exact ⟨a, b, rfl, r.mono ha hS hw, ih hb⟩
theorem RepL.live {α : Type} {r : Rep α} {S : Nat → Prop} {w : World} {xs : List α} {cs : List Value} (h : RepL r S w xs cs) : RepL r (fun b => S b ∧ b < w.heap.size) w xs cs := by
  induction xs generalizing cs with
  | nil => exact h
  | cons x xs ih => obtain ⟨a, b, rfl, ha, hb⟩ := h; exact ⟨a, b, rfl, r.live ha, ih hb⟩
theorem RepL.append {α : Type} {r : Rep α} {S : Nat → Prop} {w : World} {xs ys : List α} {cs ds : List Value} (h : RepL r S w xs cs) (k : RepL r S w ys ds) : RepL r S w (xs ++ ys) (cs ++ ds) := by
  induction xs generalizing cs with
  | nil => cases h; exact k
  | cons x xs ih => obtain ⟨a, b, rfl, ha, hb⟩ := h; exact ⟨a, b ++ ds, by simp, ha, ih hb⟩
theorem RepL.single {α : Type} {r : Rep α} {S : Nat → Prop} {w : World} {x : α} {cs : List Value} (h : r.rep S w x cs) : RepL r S w [x] cs := ⟨cs, [], by simp, h, rfl⟩
theorem RepL.drop {α : Type} {r : Rep α} {S : Nat → Prop} {w : World} {xs : List α} {cs : List Value} (h : RepL r S w xs cs) (i : Nat) : RepL r S w (xs.drop i) (cs.drop (i * r.sz)) := by
  induction i generalizing xs cs with
  | zero => simpa using h
  | succ i ih => cases xs with
    | nil => cases h; simp [RepL]
    | cons x xs =>
      obtain ⟨a, b, rfl, ha, hb⟩ := h
      have := ih hb
      rw [List.drop_succ_cons, show (i + 1) * r.sz = a.length + i * r.sz by rw [r.len ha, Nat.add_mul]; omega, List.drop_length_add_append]
      exact this
theorem RepL.take {α : Type} {r : Rep α} {S : Nat → Prop} {w : World} {xs : List α} {cs : List Value} (h : RepL r S w xs cs) (i : Nat) : RepL r S w (xs.take i) (cs.take (i * r.sz)) := by
  induction i generalizing xs cs with
  | zero => simp [RepL]
  | succ i ih => cases xs with
    | nil => cases h; simp [RepL]
    | cons x xs =>
      obtain ⟨a, b, rfl, ha, hb⟩ := h
      have := ih hb
      rw [List.take_succ_cons, show (i + 1) * r.sz = a.length + i * r.sz by rw [r.len ha, Nat.add_mul]; omega, List.take_length_add_append]
      exact ⟨a, _, rfl, ha, this⟩
theorem RepL.at {α : Type} {r : Rep α} {S : Nat → Prop} {w : World} {xs : List α} {cs : List Value} (h : RepL r S w xs cs) (i : Nat) (hi : i < xs.length) : r.rep S w xs[i] ((cs.drop (i * r.sz)).take r.sz) := by
  have h1 := h.drop i
  rw [List.drop_eq_getElem_cons hi] at h1
  obtain ⟨a, b, e, ha, _⟩ := h1
  rw [e, ← r.len ha, List.take_left]
  exact ha
theorem RepL.set {α : Type} {r : Rep α} {S : Nat → Prop} {w : World} {xs : List α} {cs : List Value} (h : RepL r S w xs cs) (i : Nat) (hi : i < xs.length) {y : α} {ds : List Value} (hy : r.rep S w y ds) :
    RepL r S w (xs.set i y) (cs.take (i * r.sz) ++ ds ++ cs.drop ((i + 1) * r.sz)) := by
  have h1 := h.take i
  have h2 := h.drop (i + 1)
  have := (h1.append (RepL.single hy)).append h2
  rw [List.set_eq_take_append_cons_drop, if_pos hi]
  rwa [List.append_assoc, List.singleton_append] at this

theorem repL_num {k : IntKind} {B : Nat} {S : Nat → Prop} {w : World} {xs : List Nat} {cs : List Value} : RepL (Rep.num k B) S w xs cs ↔ cs = xs.map (fun n : Nat => Value.int k (n : Int)) ∧ Pl.Dig B xs := by
  induction xs generalizing cs with
  | nil => simp [RepL, Pl.Dig]
  | cons x xs ih =>
    constructor
    · rintro ⟨a, b, rfl, ⟨rfl, hx⟩, hb⟩
      obtain ⟨rfl, hd⟩ := ih.1 hb
      exact ⟨rfl, fun y hy => by rcases List.mem_cons.1 hy with rfl | hy <;> first | exact hx | exact hd y hy⟩
    · rintro ⟨rfl, hd⟩
      exact ⟨[.int k x], xs.map _, rfl, ⟨rfl, hd.head⟩, ih.2 ⟨rfl, hd.tail⟩⟩

/-- A slice. -/
def Rep.sl {α : Type} (r : Rep α) : Rep (List α) where
  sz := 1
  by_ := 24
  rep S w xs cs := ∃ A cap ys, cs = [.slice A xs.length cap] ∧ xs.length ≤ cap ∧ (cap ≤ 9223372036854775807 ∧ xs.length * r.by_ ≤ 140737488355328) ∧ (xs ≠ [] → ∃ b o, A = some ⟨b, o, none⟩ ∧ S b ∧ b < w.heap.size ∧ At w b o ys) ∧ RepL r S w xs ys
  len h := by obtain ⟨A, cap, ys, rfl, _⟩ := h; rfl
  one h := by obtain ⟨A, cap, ys, rfl, _⟩ := h; simp [Value.oneCell']
  mono {_ _ _ w' _ _} h hS hw := by
    obtain ⟨A, cap, ys, rfl, h1, h2, h3, h4⟩ := h
    refine ⟨A, cap, ys, rfl, h1, h2, fun hn => ?_, h4.mono hS hw⟩
    obtain ⟨b, o, e, hb, hl, ha⟩ := h3 hn
    have hl' : b < w'.heap.size := by
      have e2 := hw b hb
      rw [Array.getElem?_eq_getElem hl] at e2
      exact (Array.getElem?_eq_some_iff.1 e2).1
    exact ⟨b, o, e, hS b hb, hl', ha.same hb hw⟩
  live h := by
    obtain ⟨A, cap, ys, rfl, h1, h2, h3, h4⟩ := h
    refine ⟨A, cap, ys, rfl, h1, h2, fun hn => ?_, h4.live⟩
    obtain ⟨b, o, e, hb, hl, ha⟩ := h3 hn
    exact ⟨b, o, e, ⟨hb, hl⟩, hl, ha⟩

theorem sl_nil {α : Type} (r : Rep α) (S : Nat → Prop) (w : World) : r.sl.rep S w [] [.slice none 0 0] := ⟨none, 0, [], rfl, by simp, ⟨by simp, by simp⟩, fun h => absurd rfl h, rfl⟩
theorem sl_empty {α : Type} (r : Rep α) (S : Nat → Prop) (w : World) (A : Option Addr) (cap : Nat) (hc : cap ≤ 9223372036854775807) : r.sl.rep S w [] [.slice A 0 cap] := ⟨A, cap, [], rfl, by simp, ⟨hc, by simp⟩, fun h => absurd rfl h, rfl⟩

/-- A slice's value, opened. -/
theorem sl_open {α : Type} {r : Rep α} {S : Nat → Prop} {w : World} {xs : List α} {v : Value} (h : r.sl.rep S w xs [v]) :
    ∃ A cap, v = .slice A xs.length cap ∧ xs.length ≤ cap ∧ cap ≤ 9223372036854775807 := by
  obtain ⟨A, cap, ys, e, h1, h2, _⟩ := h
  simp only [List.cons.injEq, and_true] at e
  exact ⟨A, cap, e, h1, h2.1⟩
theorem sl_bytes {α : Type} {r : Rep α} {S : Nat → Prop} {w : World} {xs : List α} {cs : List Value} (h : r.sl.rep S w xs cs) : xs.length * r.by_ ≤ 140737488355328 := by
  obtain ⟨A, cap, ys, e, h1, h2, _⟩ := h; exact h2.2

theorem sl_cap {α : Type} {r : Rep α} {S : Nat → Prop} {w : World} {xs : List α} {A : Option Addr} {n cap : Nat} (h : r.sl.rep S w xs [.slice A n cap]) : n = xs.length ∧ xs.length ≤ cap ∧ cap ≤ 9223372036854775807 := by
  obtain ⟨A', cap', ys, e, h1, h2, _⟩ := h
  simp only [List.cons.injEq, Value.slice.injEq, and_true] at e
  obtain ⟨_, rfl, rfl⟩ := e
  exact ⟨rfl, h1, h2.1⟩

/-- Its cells. -/
theorem sl_cells {α : Type} {r : Rep α} {S : Nat → Prop} {w : World} {xs : List α} {A : Option Addr} {n cap : Nat} (h : r.sl.rep S w xs [.slice A n cap]) (hn : 0 < xs.length) :
    ∃ b o ys, A = some ⟨b, o, none⟩ ∧ S b ∧ At w b o ys ∧ RepL r S w xs ys := by
  obtain ⟨A', cap', ys, e, h1, h2, h3, h4⟩ := h
  simp only [List.cons.injEq, Value.slice.injEq, and_true] at e
  obtain ⟨rfl, rfl, rfl⟩ := e
  obtain ⟨b, o, e, hb, _, ha⟩ := h3 (by intro e; simp [e] at hn)
  exact ⟨b, o, ys, e, hb, ha, h4⟩

theorem sl_lt {α : Type} {r : Rep α} {S : Nat → Prop} {w : World} {xs : List α} {A : Option Addr} {n cap : Nat} (h : r.sl.rep S w xs [.slice A n cap]) (hn : 0 < xs.length) :
    ∀ b o, A = some ⟨b, o, none⟩ → b < w.heap.size := by
  obtain ⟨A', cap', ys, e, h1, h2, h3, h4⟩ := h
  simp only [List.cons.injEq, Value.slice.injEq, and_true] at e
  obtain ⟨rfl, rfl, rfl⟩ := e
  obtain ⟨b, o, e, _, hb, _⟩ := h3 (by intro e; simp [e] at hn)
  intro b' o' e'
  rw [e] at e'
  simp only [Option.some.injEq, Addr.mk.injEq, and_true] at e'
  omega

/-- One of its elements. -/
theorem sl_at {α : Type} {r : Rep α} {S : Nat → Prop} {w : World} {xs : List α} {A : Option Addr} {n cap : Nat} (h : r.sl.rep S w xs [.slice A n cap]) (i : Nat) (hi : i < xs.length) :
    ∃ b o ys, A = some ⟨b, o, none⟩ ∧ S b ∧ At w b (o + i * r.sz) ys ∧ r.rep S w xs[i] ys := by
  obtain ⟨b, o, ys, e, hb, ha, hr⟩ := sl_cells h (by omega)
  exact ⟨b, o, _, e, hb, ha.seg _ _, hr.at i hi⟩

/-- One of a number slice's cells. -/
theorem num_at {k : IntKind} {B : Nat} {S : Nat → Prop} {w : World} {xs : List Nat} {A : Option Addr} {n cap : Nat} (h : (Rep.num k B).sl.rep S w xs [.slice A n cap]) (i : Nat) (hi : i < xs.length) :
    ∃ b o, A = some ⟨b, o, none⟩ ∧ S b ∧ w.cell? ⟨b, o + i, none⟩ = some (.int k (xs[i] : Int)) ∧ xs[i] < B := by
  obtain ⟨b, o, ys, e, hb, ha, rfl, hr⟩ := sl_at h i hi
  exact ⟨b, o, e, hb, by simpa [Rep.num] using ha.cell 0 (by simp), hr⟩

theorem num_dig {k : IntKind} {B : Nat} {S : Nat → Prop} {w : World} {xs : List Nat} {v : Value} (h : (Rep.num k B).sl.rep S w xs [v]) : Pl.Dig B xs := by
  obtain ⟨A, cap, ys, e, h1, h2, h3, h4⟩ := h
  exact (repL_num.1 h4).2

/-- A number slice whose address is known, all its cells. -/
theorem num_all {k : IntKind} {B : Nat} {S : Nat → Prop} {w : World} {xs : List Nat} {b o n cap : Nat} (h : (Rep.num k B).sl.rep S w xs [.slice (some ⟨b, o, none⟩) n cap]) (i : Nat) (hi : i < xs.length) :
    S b ∧ w.cell? ⟨b, o + i, none⟩ = some (.int k (xs[i] : Int)) := by
  obtain ⟨b', o', e, hb, hc, _⟩ := num_at h i hi
  simp only [Option.some.injEq, Addr.mk.injEq, and_true] at e
  obtain ⟨rfl, rfl⟩ := e
  exact ⟨hb, hc⟩

/-- 'x[l:h]' of a slice, its length known; the address as the walk has it. -/
theorem sl_cut {α : Type} {r : Rep α} {S : Nat → Prop} {w : World} {xs : List α} {A : Option Addr} {n cap : Nat} (h : r.sl.rep S w xs [.slice A n cap]) (l k : Nat) (hlk : l ≤ k) (hk : k ≤ xs.length) (A' : Option Addr)
    (hA : l < k → ∀ b o, A = some ⟨b, o, none⟩ → A' = some ⟨b, o + l * r.sz, none⟩) (m cap' : Nat) (hm : m = k - l) (hc : k - l ≤ cap') (hc' : cap' ≤ 9223372036854775807) :
    r.sl.rep S w ((xs.take k).drop l) [.slice A' m cap'] := by
  subst hm
  have hlen : ((xs.take k).drop l).length = k - l := by simp; omega
  rcases Nat.eq_or_lt_of_le hlk with rfl | hlt
  · have e : (xs.take l).drop l = [] := List.eq_nil_of_length_eq_zero (by rw [hlen]; omega)
    rw [e, Nat.sub_self]
    exact sl_empty r S w A' cap' hc'
  · obtain ⟨b, o, ys, e, hb, ha, hr⟩ := sl_cells h (by omega)
    have hb' := sl_lt h (by omega) b o e
    refine ⟨A', cap', (ys.take (k * r.sz)).drop (l * r.sz), by rw [hlen], by omega, ⟨hc', Nat.le_trans (Nat.mul_le_mul_right _ (by omega)) (sl_bytes h)⟩, fun _ => ⟨b, _, hA hlt b o e, hb, hb', (ha.take _).drop _⟩, ((hr.take k).drop l)⟩

/-- A row of one's own: the block, whole. -/
def Row (w : World) (g : Nat) (e : TypeId) (cs : List Value) : Prop := w.heap[g]? = some (.cells cs.toArray e (0, 0))

theorem Row.lt {w : World} {g : Nat} {e : TypeId} {cs : List Value} (h : Row w g e cs) : g < w.heap.size := (Array.getElem?_eq_some_iff.1 h).1
theorem Row.cell {w : World} {g : Nat} {e : TypeId} {cs : List Value} (h : Row w g e cs) (i : Nat) (hi : i < cs.length) : w.cell? ⟨g, i, none⟩ = some cs[i] := by
  rw [cell_of_row w g i _ e _ h]; simp [hi]
theorem Row.frozen {w : World} {g : Nat} {e : TypeId} {cs : List Value} (h : Row w g e cs) (i : Nat) : w.frozen? ⟨g, i, none⟩ = false := frozen_of_row w g i _ e h
theorem Row.set {w : World} {g : Nat} {e : TypeId} {cs : List Value} (h : Row w g e cs) (i : Nat) (v : Value) : Row (w.setCell ⟨g, i, none⟩ v) g e (cs.set i v) := by
  unfold Row; rw [heap_setCell_same w g i _ e v h]; simp
theorem Row.other {w : World} {g : Nat} {e : TypeId} {cs : List Value} (h : Row w g e cs) {a : Addr} (ha : g ≠ a.block) (v : Value) : Row (w.setCell a v) g e cs := by
  unfold Row; rw [heap_setCell_other w a g v ha]; exact h
theorem Row.same {S : Nat → Prop} {w w' : World} {g : Nat} {e : TypeId} {cs : List Value} (h : Row w g e cs) (hS : S g) (hs : Same S w w') : Row w' g e cs := (hs g hS).trans h
theorem Row.below {B : Nat} {w w' : World} {g : Nat} {e : TypeId} {cs : List Value} (h : Row w g e cs) (hg : g < B) (hs : Below B w w') : Row w' g e cs := (hs.block g hg).trans h
theorem Row.grown {w w' : World} {g : Nat} {e : TypeId} {cs : List Value} (h : Row w g e cs) {row : Option Nat} (hs : w.grownBy w' row) (hne : some g ≠ row) : Row w' g e cs := (hs.block g h.lt hne).trans h
theorem Row.alloc {w : World} {g : Nat} {e : TypeId} {cs : List Value} (h : Row w g e cs) (o : Obj) : Row (w.alloc o) g e cs := by
  unfold Row; rw [heap_alloc_old w o h.lt]; exact h
theorem Row.drew {w : World} {g : Nat} {e : TypeId} {cs : List Value} (h : Row w g e cs) : Row w.drew g e cs := h
theorem Row.new (w : World) (e : TypeId) (cs : Array Value) : Row (w.alloc (.cells cs e)) w.heap.size e cs.toList := by
  unfold Row; rw [heap_alloc_new]
theorem Row.at {w : World} {g : Nat} {e : TypeId} {cs : List Value} (h : Row w g e cs) : At w g 0 cs := fun j hj => by rw [Nat.zero_add]; exact ⟨h.cell j hj, h.frozen j⟩

/-- A slice that lies in a row. -/
theorem Row.sl {α : Type} {r : Rep α} {S : Nat → Prop} {w : World} {g : Nat} {e : TypeId} {cs : List Value} (h : Row w g e cs) (hS : S g) {xs : List α} (hr : RepL r S w xs cs) (cap : Nat) (hc : xs.length ≤ cap) (hc' : cap ≤ 9223372036854775807) (hby : xs.length * r.by_ ≤ 140737488355328) :
    r.sl.rep S w xs [.slice (some ⟨g, 0, none⟩) xs.length cap] := ⟨_, cap, cs, rfl, hc, ⟨hc', hby⟩, fun _ => ⟨g, 0, rfl, hS, h.lt, h.at⟩, hr⟩

theorem ne_own {b g o n c : Nat} (h : b ≠ g) : some b ≠ (Value.slice (some ⟨g, o, none⟩) n c).ownBlock := by simpa [Value.ownBlock] using h
theorem own_ge {B k g o n c : Nat} (hk : (Value.slice (some ⟨g, o, none⟩) n c).ownBlock = some k) (h : B ≤ g) : B ≤ k := by
  have : g = k := by simpa [Value.ownBlock] using hk
  omega

def nums (k : IntKind) (xs : List Nat) : List Value := xs.map fun n : Nat => .int k (n : Int)
theorem nums_length (k : IntKind) (xs : List Nat) : (nums k xs).length = xs.length := by simp [nums]
theorem nums_at (k : IntKind) (xs : List Nat) (i : Nat) (h : i < (nums k xs).length) : (nums k xs)[i] = .int k ((xs[i]'(by simpa [nums] using h)) : Int) := by simp [nums]
theorem nums_set (k : IntKind) (xs : List Nat) (i n : Nat) : (nums k xs).set i (.int k (n : Int)) = nums k (xs.set i n) := by simp [nums]
theorem nums_zero (k : IntKind) (n : Nat) : nums k (List.replicate n 0) = List.replicate n (.int k 0) := by simp [nums]

/-- A row of numbers. -/
theorem Row.num {k : IntKind} {w : World} {g : Nat} {e : TypeId} {xs : List Nat} (h : Row w g e (nums k xs)) (i : Nat) (hi : i < xs.length) : w.cell? ⟨g, i, none⟩ = some (.int k (xs[i] : Int)) := by
  rw [h.cell i (by simpa [nums] using hi), nums_at]
theorem Row.setNum {k : IntKind} {w : World} {g : Nat} {e : TypeId} {xs : List Nat} (h : Row w g e (nums k xs)) (i n : Nat) : Row (w.setCell ⟨g, i, none⟩ (.int k (n : Int))) g e (nums k (xs.set i n)) := by
  rw [← nums_set]; exact h.set i _
theorem Row.slNum {k : IntKind} {B : Nat} {S : Nat → Prop} {w : World} {g : Nat} {e : TypeId} {xs : List Nat} (h : Row w g e (nums k xs)) (hS : S g) (hd : Pl.Dig B xs) (cap : Nat) (hc : xs.length ≤ cap) (hc' : cap ≤ 9223372036854775807) (hby : xs.length * 8 ≤ 140737488355328) :
    (Rep.num k B).sl.rep S w xs [.slice (some ⟨g, 0, none⟩) xs.length cap] :=
  h.sl hS (repL_num.2 ⟨rfl, hd⟩) cap hc hc' (Nat.le_trans (Nat.mul_le_mul_left _ (by cases k <;> simp [Rep.num])) hby)

/-- What was made by a call, and is there. -/
def Fresh (w w' : World) (b : Nat) : Prop := w.heap.size ≤ b ∧ b < w'.heap.size
theorem Fresh.mono {a b c d : World} (h1 : a.heap.size ≤ b.heap.size) (h2 : c.heap.size ≤ d.heap.size) : ∀ i, Fresh b c i → Fresh a d i := fun _ hi => ⟨Nat.le_trans h1 hi.1, Nat.lt_of_lt_of_le hi.2 h2⟩
theorem Fresh.lt {w w' : World} {b : Nat} (h : Fresh w w' b) : b < w'.heap.size := h.2

/-- It rests on blocks that are there. -/
theorem Rep.old {α : Type} (r : Rep α) {S : Nat → Prop} {w : World} {x : α} {cs : List Value} (h : r.rep S w x cs) : r.rep (· < w.heap.size) w x cs :=
  r.mono (r.live h) (fun _ hb => hb.2) (Same.refl _ _)
/-- A world that has grown alone: what read so reads so. -/
theorem Rep.below {α : Type} (r : Rep α) {S : Nat → Prop} {w w' : World} {x : α} {cs : List Value} (h : r.rep S w x cs) (hw : Below w.heap.size w w') : r.rep S w' x cs :=
  r.mono (r.live h) (fun _ hb => hb.1) (fun b hb => hw.block b hb.2)

/-- What lies in new memory of one call stays behind the next one. -/
theorem Rep.keep {α : Type} (r : Rep α) {S : Nat → Prop} {w w' : World} {x : α} {cs : List Value} (h : r.rep S w x cs) (hS : ∀ b, S b → b < w.heap.size) (hw : Below w.heap.size w w') : r.rep S w' x cs :=
  r.mono h (fun _ hb => hb) (Same.mono (Same.of_below hw) hS)

theorem below_trans {a b c : World} (h : Below a.heap.size a b) (k : Below b.heap.size b c) : Below a.heap.size a c := h.trans (k.mono h.size)
theorem below_setCell {a b : World} (h : Below a.heap.size a b) {p : Addr} (hp : a.heap.size ≤ p.block) (u : Value) : Below a.heap.size a (b.setCell p u) := h.setCell hp u
theorem below_alloc {a b : World} (h : Below a.heap.size a b) (o : Obj) : Below a.heap.size a (b.alloc o) := h.alloc h.size o


/-- A slice of the call's own that is appended to: its elements' own blocks are in S. -/
def Own {α : Type} (r : Rep α) (base : Nat) (e : TypeId) (S : Nat → Prop) (w : World) (xs : List α) (v : Value) : Prop :=
  ∃ cs, w.ownsRow base e r.sz v xs.length cs ∧ RepL r S w xs cs

theorem Own.nil {α : Type} (r : Rep α) (base : Nat) (e : TypeId) (S : Nat → Prop) (w : World) : Own r base e S w [] (.slice none 0 0) :=
  ⟨[], World.ownsRow_nil w base e r.sz, rfl⟩
theorem Own.lit {α : Type} (r : Rep α) (base : Nat) (e : TypeId) (S : Nat → Prop) (w : World) (xs : List α) (cs : Array Value) (hb : base ≤ w.heap.size) (hr : RepL r S (w.alloc (.cells cs e)) xs cs.toList) (n : Nat) (hn : n = xs.length) (hm : n ≤ 9223372036854775807) :
    Own r base e S (w.alloc (.cells cs e)) xs (.slice (some ⟨w.heap.size, 0, none⟩) n n) := by
  subst hn
  refine ⟨cs.toList, World.ownsRow_lit w cs _ hb (by simpa [maxLen] using hm) ?_, hr⟩
  have := hr.len; simpa using this
theorem Own.blk {α : Type} {r : Rep α} {base : Nat} {e : TypeId} {S : Nat → Prop} {w : World} {xs : List α} {v : Value} (h : Own r base e S w xs v) : ∀ k, v.ownBlock = some k → base ≤ k ∧ k < w.heap.size := by
  obtain ⟨cs, h, _⟩ := h; exact h.lt
theorem Own.grown {α : Type} {r : Rep α} {base : Nat} {e : TypeId} {S : Nat → Prop} {w w' : World} {xs : List α} {v : Value} (h : Own r base e S w xs v) {row : Option Nat} (hg : w.grownBy w' row) (hne : v.ownBlock = none ∨ v.ownBlock ≠ row)
    (hS : ∀ b, S b → b < w.heap.size ∧ some b ≠ row) : Own r base e S w' xs v := by
  obtain ⟨cs, h1, h2⟩ := h
  exact ⟨cs, h1.kept hg hne, h2.mono (fun _ h => h) (fun b hb => hg.block b (hS b hb).1 (hS b hb).2)⟩
theorem grown_below {w w' : World} (h : Below w.heap.size w w') (row : Option Nat) : w.grownBy w' row := ⟨h.os, h.tape, h.output, h.size, fun k hk _ => h.block k hk⟩
theorem Own.below {α : Type} {r : Rep α} {base : Nat} {e : TypeId} {S : Nat → Prop} {w w' : World} {xs : List α} {v : Value} (h : Own r base e S w xs v) (hw : Below w.heap.size w w') (hS : ∀ b, S b → b < w.heap.size) : Own r base e S w' xs v :=
  h.grown (grown_below hw none) (by cases v.ownBlock <;> simp) (fun b hb => ⟨hS b hb, by simp⟩)
theorem Own.weaken {α : Type} {r : Rep α} {base base' : Nat} {e : TypeId} {S S' : Nat → Prop} {w : World} {xs : List α} {v : Value} (h : Own r base e S w xs v) (hb : base' ≤ base) (hS : ∀ b, S b → S' b) : Own r base' e S' w xs v := by
  obtain ⟨cs, h1, h2⟩ := h
  refine ⟨cs, ⟨h1.1, ?_⟩, h2.mono hS (Same.refl _ _)⟩
  rcases h1.2 with h | ⟨g, cap, cur, e, hg, r⟩
  · exact .inl h
  · exact .inr ⟨g, cap, cur, e, Nat.le_trans hb hg, r⟩

/-- It reads as a slice. -/
theorem Own.sl {α : Type} {r : Rep α} {base : Nat} {e : TypeId} {S S' : Nat → Prop} {w : World} {xs : List α} {v : Value} (h : Own r base e S w xs v) (hS : ∀ b, S b → S' b) (hv : ∀ k, v.ownBlock = some k → S' k) (hby : xs.length * r.by_ ≤ 140737488355328) : r.sl.rep S' w xs [v] := by
  obtain ⟨cs, h1, h2⟩ := h
  have hlen := h2.len
  rcases h1.2 with ⟨rfl, h0⟩ | ⟨g, cap, cur, rfl, _, hg, hn, hm, hs, ht⟩
  · obtain rfl : xs = [] := List.eq_nil_of_length_eq_zero h0
    exact sl_nil r S' w
  · refine ⟨_, cap, cs, rfl, hn, ⟨by simpa [maxLen] using hm, hby⟩, fun _ => ⟨g, 0, rfl, hv g rfl, (Array.getElem?_eq_some_iff.1 hg).1, fun j hj => ?_⟩, h2.mono hS (Same.refl _ _)⟩
    rw [Nat.zero_add]
    have hgr : Row w g e cur.toList := by unfold Row; simpa using hg
    refine ⟨?_, hgr.frozen j⟩
    have hj' : j < cur.toList.length := by
      rw [← ht, List.length_take] at hj; omega
    rw [hgr.cell j hj']
    congr 1
    have : (cur.toList.take (xs.length * r.sz))[j]'(by rw [ht]; exact hj) = cs[j] := by simp only [ht]
    rw [← this, List.getElem_take]

theorem Own.slFresh {α : Type} {r : Rep α} {e : TypeId} {w0 w : World} {xs : List α} {v : Value} (h : Own r w0.heap.size e (Fresh w0 w) w xs v) (hby : xs.length * r.by_ ≤ 140737488355328) : r.sl.rep (Fresh w0 w) w xs [v] :=
  h.sl (fun _ h => h) (fun k hk => h.blk k hk) hby

section
variable {P : Program} {ops : Array Oper} {rest : List Oper} {o : Oper} {a : Act} {Q : Exit → Act → World → Prop} {w : World}

/-- 'append(v, u...)', v a slice of the call's own, u whatever slice. -/
theorem run_append_rep {α : Type} {r : Rep α} (t ty e : TypeId) (z : Value) (bytes : Nat) (ht : P.underlying t = some (.slice e))
    (hinfo : (P.info? e).map (fun i => (i.zero, i.size, i.bytes)) = some (some z, r.sz, bytes)) (hz : z.cells.size = r.sz) (hsz : 0 < r.sz) (hby : 0 < bytes)
    (base : Nat) (v : Value) (xs : List α) {S : Nat → Prop} (hown : Own r base e S w xs v) (u : Value) (ys : List α) (hu : r.sl.rep S w ys [u])
    (hlen : (xs.length + ys.length) * bytes ≤ 140737488355328) (hbase : base ≤ w.heap.size) (hS : ∀ b, S b → b < w.heap.size ∧ some b ≠ v.ownBlock) :
    ∃ v' w', (Builtin.append_ #[t, t] ty #[v, u]).run P w = .ok v' w' ∧ Own r base e S w' (xs ++ ys) v' ∧ w.grownBy w' v.ownBlock ∧ (v'.ownBlock = v.ownBlock ∨ v'.ownBlock = some w.heap.size) := by
  obtain ⟨i0, hi, hzz⟩ := Option.map_eq_some_iff.1 hinfo
  simp only [Prod.mk.injEq] at hzz
  obtain ⟨hz0, hz1, hz2⟩ := hzz
  have hmx : xs.length + ys.length ≤ 140737488355328 := Nat.le_trans (Nat.le_mul_of_pos_right _ hby) hlen
  obtain ⟨cs, ho, hr⟩ := hown
  obtain ⟨A, cap, rfl, hcap, _⟩ := sl_open hu
  cases ys with
  | nil =>
    refine ⟨v, w, ?_, by simpa using ⟨cs, ho, hr⟩, ⟨rfl, rfl, rfl, Nat.le_refl _, fun _ _ _ => rfl⟩, .inl rfl⟩
    have hf : (Builtin.firstCells r.sz 0 (.slice A 0 cap)).run P w = .ok #[] w := by
      cases A <;> simp [Builtin.firstCells, loadCells, loadCellsFrom]
    rcases ho.2 with ⟨rfl, _⟩ | ⟨g, cap', cur, rfl, _, _, hnc, _⟩
    · simp [Builtin.append_, run_underlying ht, sizeOf, typeInfo, hi, hz1, Builtin.lenOf, hf]
    · simp [Builtin.append_, run_underlying ht, sizeOf, typeInfo, hi, hz1, Builtin.lenOf, hf, hnc, storeCells]
  | cons y ys =>
    obtain ⟨b, of, ds, rfl, hb, hat, hrl⟩ := sl_cells hu (by simp)
    have hcells : ∀ j q, ds[j]? = some q → w.cell? ((⟨b, of, none⟩ : Addr).add j) = some q := by
      intro j q hq
      obtain ⟨hj, rfl⟩ := List.getElem?_eq_some_iff.1 hq
      have ha : (⟨b, of, none⟩ : Addr).add j = ⟨b, of + j, none⟩ := by unfold Addr.add; split <;> simp_all
      rw [ha]
      exact hat.cell j hj
    obtain ⟨v1, w1, h1, h2, h3, _, h5⟩ := run_append_own_at (P := P) w base t ty e i0 z r.sz bytes ht hi hz0 hz1 hz2 hz hsz v xs.length cs ho ⟨b, of, none⟩ (y :: ys).length cap ds hrl.len hcells
      hrl.one (by simp only [maxLen]; omega) hlen hbase
    refine ⟨v1, w1, h1, ⟨cs ++ ds, by simpa using h2, (hr.append hrl).mono (fun _ h => h) (fun b hb => h3.block b (hS b hb).1 (hS b hb).2)⟩, h3, h5⟩

theorem wpList_append_rep {α : Type} {r : Rep α} (hgd : o.guard = none) (s x : Operand) (t e : TypeId) (z : Value) (bytes : Nat)
    (ho : o.op = .call { callee := .builtin .append, args := #[s, x], argTypes := #[t, t] }) (ht : P.underlying t = some (.slice e))
    (hinfo : (P.info? e).map (fun i => (i.zero, i.size, i.bytes)) = some (some z, r.sz, bytes)) (hz : z.cells.size = r.sz) (hsz : 0 < r.sz) (hby : 0 < bytes)
    (base : Nat) (v : Value) (xs : List α) {S : Nat → Prop} (u : Value) (ys : List α) (hs : a.eval s = v) (hx : a.eval x = u) (hown : Own r base e S w xs v) (hu : r.sl.rep S w ys [u])
    (hlen : (xs.length + ys.length) * bytes ≤ 140737488355328) (hbase : base ≤ w.heap.size) (hS : ∀ b, S b → b < w.heap.size ∧ some b ≠ v.ownBlock)
    (h : ∀ v' w', Own r base e S w' (xs ++ ys) v' → w.grownBy w' v.ownBlock → (v'.ownBlock = v.ownBlock ∨ v'.ownBlock = some w.heap.size) → wpList P ops Q rest (a.put o.dst v') w') :
    wpList P ops Q (o :: rest) a w := by
  obtain ⟨v', w', hr, h1, h2, h3⟩ := run_append_rep (P := P) t o.type e z bytes ht hinfo hz hsz hby base v xs hown u ys hu hlen hbase hS
  refine wpList_plain hgd fun K hK => ?_
  unfold Oper.wp execOp
  simp only [ho, resolve, invoke, builtin, Sem.run_bind, Sem.run_pure, Result.andThen_ok, List.map_toArray, List.map_cons, List.map_nil, hs, hx, hr]
  exact hK _ _ (h v' w' h1 h2 h3)
end

/-- A row of which one block may have been written. -/
theorem Rep.grown {α : Type} (r : Rep α) {S : Nat → Prop} {w w' : World} {row : Option Nat} {x : α} {cs : List Value} (h : r.rep S w x cs) (hg : w.grownBy w' row) (hS : ∀ b, S b → some b ≠ row) : r.rep S w' x cs :=
  r.mono (r.live h) (fun _ hb => hb.1) (fun b hb => hg.block b hb.2 (hS b hb.1))
theorem grown_refl (w : World) (row : Option Nat) : w.grownBy w row := ⟨rfl, rfl, rfl, Nat.le_refl _, fun _ _ _ => rfl⟩
theorem grown_trans {a b c : World} {row : Option Nat} (h : a.grownBy b row) (k : b.grownBy c row) : a.grownBy c row :=
  ⟨k.os.trans h.os, k.tape.trans h.tape, k.output.trans h.output, Nat.le_trans h.size k.size, fun i hi hn => (k.block i (Nat.lt_of_lt_of_le hi h.size) hn).trans (h.block i hi hn)⟩
theorem grown_set {a b : World} {g i : Nat} (h : a.grownBy b (some g)) (v : Value) : a.grownBy (b.setCell ⟨g, i, none⟩ v) (some g) :=
  ⟨h.os, h.tape, h.output, by simpa using h.size, fun k hk hn => by
    rw [heap_setCell_other b _ k v (by simpa using hn)]; exact h.block k hk hn⟩
theorem grown_alloc {a b : World} {row : Option Nat} (h : a.grownBy b row) (o : Obj) : a.grownBy (b.alloc o) row := grown_trans h (World.grownBy_alloc b o row)
theorem grown_drew {a b : World} {row : Option Nat} (h : a.grownBy b row) : a.grownBy b.drew row := ⟨h.os, h.tape, h.output, h.size, h.block⟩
theorem grown_setRow {a b : World} {g : Nat} (h : a.grownBy b (some g)) (cs : Array Value) : a.grownBy (b.setRow g cs) (some g) :=
  ⟨h.os, h.tape, h.output, by simpa using h.size, fun k hk hn => by
    rw [setRow_other b g k cs (by simpa using hn)]; exact h.block k hk hn⟩
/-- What only writes a block of the call's own. -/
theorem below_grown {a b c : World} {g : Nat} (h : Below a.heap.size a b) (k : b.grownBy c (some g)) (hg : a.heap.size ≤ g) : Below a.heap.size a c :=
  h.grown k h.size (fun i hi => by injection hi with hi; omega)

/-- A part of a row of numbers reads as a slice. -/
theorem Row.seg {k : IntKind} {B : Nat} {S : Nat → Prop} {w : World} {g : Nat} {e : TypeId} {pre us post : List Nat} (h : Row w g e (nums k (pre ++ us ++ post))) (hS : S g) (hd : Pl.Dig B us) (o n cap : Nat) (ho : o = pre.length) (hn : n = us.length) (hc : n ≤ cap) (hc' : cap ≤ 9223372036854775807) (hby : n * 8 ≤ 140737488355328) :
    (Rep.num k B).sl.rep S w us [.slice (some ⟨g, o, none⟩) n cap] := by
  subst ho
  subst hn
  refine ⟨_, cap, nums k us, rfl, hc, ⟨hc', Nat.le_trans (Nat.mul_le_mul_left _ (by cases k <;> simp [Rep.num])) hby⟩, fun _ => ⟨g, _, rfl, hS, h.lt, fun j hj => ?_⟩, repL_num.2 ⟨rfl, hd⟩⟩
  rw [nums_length] at hj
  refine ⟨?_, h.frozen _⟩
  have hj' : pre.length + j < (pre ++ us ++ post).length := by simp; omega
  rw [h.num (pre.length + j) hj', nums_at]
  congr 3
  rw [List.getElem_append_left (by simp; omega), List.getElem_append_right (by omega)]
  simp

theorem seg_at {α : Type} {pre us post : List α} {i : Nat} (hi : i < us.length) : (pre ++ us ++ post)[pre.length + i]'(by simp; omega) = us[i] := by
  rw [List.getElem_append_left (by simp; omega), List.getElem_append_right (by omega)]
  simp
theorem seg_set {α : Type} {pre us post : List α} {i : Nat} (hi : i < us.length) (x : α) : (pre ++ us ++ post).set (pre.length + i) x = pre ++ us.set i x ++ post := by
  rw [List.append_assoc, List.set_append_right _ _ (by omega), show pre.length + i - pre.length = i by omega, List.set_append_left _ _ hi, List.append_assoc]
theorem Row.segCell {k : IntKind} {w : World} {g : Nat} {e : TypeId} {pre us post : List Nat} (h : Row w g e (nums k (pre ++ us ++ post))) (o : Nat) (ho : o = pre.length) (i : Nat) (hi : i < us.length) : w.cell? ⟨g, o + i, none⟩ = some (.int k (us[i] : Int)) := by
  subst ho
  rw [h.num (pre.length + i) (by simp; omega), seg_at hi]
theorem Row.segSet {k : IntKind} {w : World} {g : Nat} {e : TypeId} {pre us post : List Nat} (h : Row w g e (nums k (pre ++ us ++ post))) (o : Nat) (ho : o = pre.length) (i : Nat) (hi : i < us.length) (n : Nat) : Row (w.setCell ⟨g, o + i, none⟩ (.int k (n : Int))) g e (nums k (pre ++ us.set i n ++ post)) := by
  subst ho
  have := h.setNum (pre.length + i) n
  rwa [seg_set hi] at this

/-- as many cells alike -/
def zerosOf (z : Value) (m : Nat) : Array Value := (List.replicate m z).toArray
theorem zerosOf_toList (z : Value) (m : Nat) : (zerosOf z m).toList = List.replicate m z := rfl
theorem zerosOf_num (k : IntKind) (m : Nat) : (zerosOf (.int k 0) m).toList = nums k (List.replicate m 0) := by rw [zerosOf_toList, nums_zero]

/-- 'make' of a kind that takes one cell -/
theorem run_make_one {P : Program} (t e : TypeId) (z : Value) (bytes : Nat) (ht : P.underlying t = some (.slice e))
    (hinfo : (P.info? e).map (fun i => (i.zero, i.size, i.bytes)) = some (some z, 1, bytes)) (hz : z.cells = #[z]) (m : Nat) (hm : bytes * m ≤ 281474976710656) (h63 : m ≤ 9223372036854775807) (W : World) :
    (Instr.makeSlice t (.int .i64 (m : Int)) (.int .i64 (m : Int))).run P W = .ok (.slice (some ⟨W.heap.size, 0, none⟩) m m) (W.alloc (.cells (zerosOf z m) e)) := by
  obtain ⟨i0, hi, hzz⟩ := Option.map_eq_some_iff.1 hinfo
  simp only [Prod.mk.injEq] at hzz
  obtain ⟨hz0, hz1, hz2⟩ := hzz
  have hb' : (i0.bytes : Int) * (m : Int) ≤ 281474976710656 := by
    have h : ((i0.bytes * m : Nat) : Int) ≤ 281474976710656 := by rw [hz2]; omega
    rwa [Int.natCast_mul] at h
  have hr := run_make (P := P) W t e i0 z ht hi hz0 .i64 .i64 m m (by omega) (Int.le_refl _) hb' (by omega)
  simp only [Int.toNat_natCast, hz, hz1, Nat.mul_one] at hr
  rw [hr]
  congr 3
  have : (madeCells #[z] m).toList = (zerosOf z m).toList := by rw [toList_madeCells_one, zerosOf_toList]
  rw [← Array.toArray_toList (xs := madeCells #[z] m), this, Array.toArray_toList]

section
variable {P : Program} (w : World)

theorem run_equalIn_iface_int (d : Nat) {ti tn : TypeId} {ms : Array (String × TypeId)} {i : TypeInfo} {k : IntKind} (a b : Int)
    (hi : P.underlying ti = some (.interface ms)) (hn : P.underlying tn = some (.int k)) (hinfo : P.info? tn = some i) (hcomp : i.comparable = true) :
    (Op.equalIn (d + 2) ti (.iface tn (.int k a)) (.iface tn (.int k b))).run P w = .ok (a == b) w := by
  simp [Op.equalIn, run_underlying hi, run_underlying hn, typeInfo, hinfo, hcomp]

/-- 'x == y', both interface values of one integer type: as the numbers are. -/
theorem run_eql_iface_int {ti tn : TypeId} {ms : Array (String × TypeId)} {i : TypeInfo} {k : IntKind} (a b : Int)
    (hi : P.underlying ti = some (.interface ms)) (hn : P.underlying tn = some (.int k)) (hinfo : P.info? tn = some i) (hcomp : i.comparable = true) :
    (binOp .eql ti (.iface tn (.int k a)) (.iface tn (.int k b))).run P w = .ok (.bool (a == b)) w := by
  simp only [binOp]
  simp [Op.equal, Op.maxDepth, run_equalIn_iface_int w 9998 a b hi hn hinfo hcomp]
end

/-- A call's first step, its slots written out (no tactic goes through the code). -/
theorem calls_enter {P : Program} {f : FuncId} {fn : Func} {c : Code} {args : Array Value} {w : World} {R : Ending → World → Prop} (hf : P.funcs[f]? = some fn) (hb : fn.body = some c) (n : Nat) (hn : fn.ntmps = n) (tm : Array Value)
    (ht : args ++ Array.replicate (n - args.size) undef = tm) (h : c.wp P (bodyPost P fn R) { tmps := tm, defers := [] } w) : Calls P f args w R :=
  calls_of_wp hf hb (by rw [hn, ht]; exact h)

end Go.Proofs.Ytphbacggmhjmgaa
