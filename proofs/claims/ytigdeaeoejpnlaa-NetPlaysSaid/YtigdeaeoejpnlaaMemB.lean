/- Slices of which only the elements' own blocks are named: what is appended to a slice of one's own. -/
import Derived.Test.YtigdeaeoejpnlaaNetC
namespace Go.Proofs.Ytigdeaeoejpnlaa
open Go.RowKit

/-- A slice's value reads as ys; S names the blocks on which the elements rest (not the slice's own). -/
def SlE {α : Type} (r : Rep α) (S : Nat → Prop) (w : World) (ys : List α) (u : Value) : Prop :=
  ∃ A cap ds, u = .slice A ys.length cap ∧ ys.length ≤ cap ∧ cap ≤ 9223372036854775807 ∧ (ys ≠ [] → ∃ b o, A = some ⟨b, o, none⟩ ∧ b < w.heap.size ∧ At w b o ds) ∧ RepL r S w ys ds

theorem SlE.of_own {α : Type} {r : Rep α} {base : Nat} {e : TypeId} {S : Nat → Prop} {w : World} {xs : List α} {v : Value} (h : Own r base e S w xs v) : SlE r S w xs v := by
  obtain ⟨cs, h1, h2⟩ := h
  rcases h1.2 with ⟨rfl, h0⟩ | ⟨g, cap, cur, rfl, _, hg, hn, hm, hs, ht⟩
  · obtain rfl : xs = [] := List.eq_nil_of_length_eq_zero h0
    exact ⟨none, 0, cs, rfl, by simp, by omega, fun h => absurd rfl h, h2⟩
  · refine ⟨_, cap, cs, rfl, hn, by simpa [maxLen] using hm, fun _ => ⟨g, 0, rfl, (Array.getElem?_eq_some_iff.1 hg).1, fun j hj => ?_⟩, h2⟩
    rw [Nat.zero_add]
    have hgr : Row w g e cur.toList := by unfold Row; simpa using hg
    refine ⟨?_, hgr.frozen j⟩
    have hj' : j < cur.toList.length := by
      rw [← ht, List.length_take] at hj; omega
    rw [hgr.cell j hj']
    congr 1
    have : (cur.toList.take (xs.length * r.sz))[j]'(by rw [ht]; exact hj) = cs[j] := by simp only [ht]
    rw [← this, List.getElem_take]
theorem SlE.cut {α : Type} {r : Rep α} {S : Nat → Prop} {w : World} {xs : List α} {A : Option Addr} {n cap : Nat} (h : SlE r S w xs (.slice A n cap)) (l k : Nat) (hlk : l ≤ k) (hk : k ≤ xs.length) (A' : Option Addr)
    (hA : l < k → ∀ b o, A = some ⟨b, o, none⟩ → A' = some ⟨b, o + l * r.sz, none⟩) (m cap' : Nat) (hm : m = k - l) (hc : k - l ≤ cap') (hc' : cap' ≤ 9223372036854775807) : SlE r S w ((xs.take k).drop l) (.slice A' m cap') := by
  subst hm
  obtain ⟨A0, cap0, ds, e, h1, h2, h3, h4⟩ := h
  simp only [Value.slice.injEq] at e
  obtain ⟨rfl, rfl, rfl⟩ := e
  have hlen : ((xs.take k).drop l).length = k - l := by simp; omega
  refine ⟨A', cap', (ds.take (k * r.sz)).drop (l * r.sz), by rw [hlen], by omega, hc', fun hne => ?_, (h4.take k).drop l⟩
  have hlt : l < k := by
    rcases Nat.lt_or_ge l k with h | h
    · exact h
    · exact absurd (List.eq_nil_of_length_eq_zero (by rw [hlen]; omega)) hne
  obtain ⟨b, o, e, hb, ha⟩ := h3 (by intro e; simp [e] at hk; omega)
  exact ⟨b, _, hA hlt b o e, hb, (ha.take _).drop _⟩

section
variable {P : Program} {ops : Array Oper} {rest : List Oper} {o : Oper} {a : Act} {K : Act → World → Prop} {Q : Exit → Act → World → Prop} {E : Prop} {w : World}

theorem run_append_el {α : Type} {r : Rep α} (t ty e : TypeId) (z : Value) (bytes : Nat) (ht : P.underlying t = some (.slice e))
    (hinfo : (P.info? e).map (fun i => (i.zero, i.size, i.bytes)) = some (some z, r.sz, bytes)) (hz : z.cells.size = r.sz) (hsz : 0 < r.sz) (hby : 0 < bytes)
    (base : Nat) (v : Value) (xs : List α) {S : Nat → Prop} (hown : Own r base e S w xs v) (u : Value) (ys : List α) (hu : SlE r S w ys u)
    (hlen : (xs.length + ys.length) * bytes ≤ 140737488355328) (hbase : base ≤ w.heap.size) (hS : ∀ b, S b → b < w.heap.size ∧ some b ≠ v.ownBlock) :
    ∃ v' w', (Builtin.append_ #[t, t] ty #[v, u]).run P w = .ok v' w' ∧ Own r base e S w' (xs ++ ys) v' ∧ w.grownBy w' v.ownBlock ∧ (v'.ownBlock = v.ownBlock ∨ v'.ownBlock = some w.heap.size) := by
  obtain ⟨i0, hi, hzz⟩ := Option.map_eq_some_iff.1 hinfo
  simp only [Prod.mk.injEq] at hzz
  obtain ⟨hz0, hz1, hz2⟩ := hzz
  have hmx : xs.length + ys.length ≤ 140737488355328 := Nat.le_trans (Nat.le_mul_of_pos_right _ hby) hlen
  obtain ⟨cs, ho, hr⟩ := hown
  obtain ⟨A, cap, ds, rfl, hcap, _, hne, hrl⟩ := hu
  cases ys with
  | nil =>
    refine ⟨v, w, ?_, by simpa using ⟨cs, ho, hr⟩, ⟨rfl, rfl, rfl, Nat.le_refl _, fun _ _ _ => rfl⟩, .inl rfl⟩
    have hf : (Builtin.firstCells r.sz 0 (.slice A 0 cap)).run P w = .ok #[] w := by
      cases A <;> simp [Builtin.firstCells, loadCells, loadCellsFrom]
    rcases ho.2 with ⟨rfl, _⟩ | ⟨g, cap', cur, rfl, _, _, hnc, _⟩
    · simp [Builtin.append_, run_underlying ht, sizeOf, typeInfo, hi, hz1, Builtin.lenOf, hf]
    · simp [Builtin.append_, run_underlying ht, sizeOf, typeInfo, hi, hz1, Builtin.lenOf, hf, hnc, storeCells]
  | cons y ys =>
    obtain ⟨b, of, rfl, hb, hat⟩ := hne (by simp)
    have hcells : ∀ j q, ds[j]? = some q → w.cell? ((⟨b, of, none⟩ : Addr).add j) = some q := by
      intro j q hq
      obtain ⟨hj, rfl⟩ := List.getElem?_eq_some_iff.1 hq
      have ha : (⟨b, of, none⟩ : Addr).add j = ⟨b, of + j, none⟩ := by unfold Addr.add; split <;> simp_all
      rw [ha]
      exact hat.cell j hj
    obtain ⟨v1, w1, h1, h2, h3, _, h5⟩ := run_append_own_at (P := P) w base t ty e i0 z r.sz bytes ht hi hz0 hz1 hz2 hz hsz v xs.length cs ho ⟨b, of, none⟩ (y :: ys).length cap ds hrl.len hcells
      hrl.one (by simp only [maxLen]; omega) hlen hbase
    refine ⟨v1, w1, h1, ⟨cs ++ ds, by simpa using h2, (hr.append hrl).mono (fun _ h => h) (fun b hb => h3.block b (hS b hb).1 (hS b hb).2)⟩, h3, h5⟩

theorem wp_append_el {α : Type} {r : Rep α} (s x : Operand) (t e : TypeId) (z : Value) (bytes : Nat)
    (ho : o.op = .call { callee := .builtin .append, args := #[s, x], argTypes := #[t, t] }) (ht : P.underlying t = some (.slice e))
    (hinfo : (P.info? e).map (fun i => (i.zero, i.size, i.bytes)) = some (some z, r.sz, bytes)) (hz : z.cells.size = r.sz) (hsz : 0 < r.sz) (hby : 0 < bytes)
    (base : Nat) (v : Value) (xs : List α) {S : Nat → Prop} (u : Value) (ys : List α) (hs : a.eval s = v) (hx : a.eval x = u) (hown : Own r base e S w xs v) (hu : SlE r S w ys u)
    (hlen : (xs.length + ys.length) * bytes ≤ 140737488355328) (hbase : base ≤ w.heap.size) (hS : ∀ b, S b → b < w.heap.size ∧ some b ≠ v.ownBlock)
    (h : ∀ v' w', Own r base e S w' (xs ++ ys) v' → w.grownBy w' v.ownBlock → (v'.ownBlock = v.ownBlock ∨ v'.ownBlock = some w.heap.size) → K (a.put o.dst v') w') : o.wp P a w K Q := by
  obtain ⟨v', w', hr, h1, h2, h3⟩ := run_append_el (P := P) t o.type e z bytes ht hinfo hz hsz hby base v xs hown u ys hu hlen hbase hS
  unfold Oper.wp execOp
  simp only [ho, resolve, invoke, builtin, Sem.run_bind, Sem.run_pure, Result.andThen_ok, List.map_toArray, List.map_cons, List.map_nil, hs, hx, hr]
  exact h v' w' h1 h2 h3
theorem wpList_append_el {α : Type} {r : Rep α} (hgd : o.guard = none) (s x : Operand) (t e : TypeId) (z : Value) (bytes : Nat)
    (ho : o.op = .call { callee := .builtin .append, args := #[s, x], argTypes := #[t, t] }) (ht : P.underlying t = some (.slice e))
    (hinfo : (P.info? e).map (fun i => (i.zero, i.size, i.bytes)) = some (some z, r.sz, bytes)) (hz : z.cells.size = r.sz) (hsz : 0 < r.sz) (hby : 0 < bytes)
    (base : Nat) (v : Value) (xs : List α) {S : Nat → Prop} (u : Value) (ys : List α) (hs : a.eval s = v) (hx : a.eval x = u) (hown : Own r base e S w xs v) (hu : SlE r S w ys u)
    (hlen : (xs.length + ys.length) * bytes ≤ 140737488355328) (hbase : base ≤ w.heap.size) (hS : ∀ b, S b → b < w.heap.size ∧ some b ≠ v.ownBlock)
    (h : ∀ v' w', Own r base e S w' (xs ++ ys) v' → w.grownBy w' v.ownBlock → (v'.ownBlock = v.ownBlock ∨ v'.ownBlock = some w.heap.size) → wpList P ops Q rest (a.put o.dst v') w') : wpList P ops Q (o :: rest) a w :=
  wpList_plain hgd fun _ hK => wp_append_el s x t e z bytes ho ht hinfo hz hsz hby base v xs u ys hs hx hown hu hlen hbase hS fun v' w' h1 h2 h3 => hK _ _ (h v' w' h1 h2 h3)
theorem step_append_el {α : Type} {r : Rep α} (hgd : o.guard = none) (s x : Operand) (t e : TypeId) (z : Value) (bytes : Nat)
    (ho : o.op = .call { callee := .builtin .append, args := #[s, x], argTypes := #[t, t] }) (ht : P.underlying t = some (.slice e))
    (hinfo : (P.info? e).map (fun i => (i.zero, i.size, i.bytes)) = some (some z, r.sz, bytes)) (hz : z.cells.size = r.sz) (hsz : 0 < r.sz) (hby : 0 < bytes)
    (base : Nat) (v : Value) (xs : List α) {S : Nat → Prop} (u : Value) (ys : List α) (hs : a.eval s = v) (hx : a.eval x = u) (hown : Own r base e S w xs v) (hu : SlE r S w ys u)
    (hlen : (xs.length + ys.length) * bytes ≤ 140737488355328) (hbase : base ≤ w.heap.size) (hS : ∀ b, S b → b < w.heap.size ∧ some b ≠ v.ownBlock)
    (h : ∀ v' w', Own r base e S w' (xs ++ ys) v' → w.grownBy w' v.ownBlock → (v'.ownBlock = v.ownBlock ∨ v'.ownBlock = some w.heap.size) → K (a.put o.dst v') w') :
    if Region.wanted o (yielded ops a.tmps) = true then Oper.wp P o a w K Q else E := by
  have hw : Region.wanted o (yielded ops a.tmps) = true := by simp [Region.wanted, hgd]
  rw [if_pos hw]
  exact wp_append_el s x t e z bytes ho ht hinfo hz hsz hby base v xs u ys hs hx hown hu hlen hbase hS h
end

end Go.Proofs.Ytigdeaeoejpnlaa
