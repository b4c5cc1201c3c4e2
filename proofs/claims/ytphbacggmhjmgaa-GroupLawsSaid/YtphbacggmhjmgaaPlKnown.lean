/- Plain numbers: the groups that are known, and that they are groups. (Printed by gen_known.py.) -/
import Derived.Test.YtphbacggmhjmgaaGrpD
namespace Go.Proofs.Ytphbacggmhjmgaa
namespace Num
/-- what is amiss with a step, reckoned quickly -/
def stepP (b32 b64 p q a : Nat) : Nat :=
  if b32 ≤ p ∨ b64 ≤ q ∨ b64 ≤ a then 2
  else if p % 2 = 0 ∨ p < 3 then 5
  else if q ≤ 1 ∨ a ≤ 1 ∨ p - 1 < a ∨ q * q ≤ p ∨ (p - 1) % q ≠ 0 ∨ pm 256 a (p - 1) p ≠ 1 ∨ Nat.gcd ((pm 256 a ((p - 1) / q) p + (p - 1)) % p) p ≠ 1 then 7
  else 0
theorem stepP_eq {b32 b64 p q a : Nat} (h : p < 2 ^ 256) : stepE b32 b64 p q a = stepP b32 b64 p q a := by
  have h1 : p - 1 < 2 ^ 256 := Nat.lt_of_le_of_lt (Nat.sub_le _ _) h
  have h2 : (p - 1) / q < 2 ^ 256 := Nat.lt_of_le_of_lt (Nat.div_le_self _ _) h1
  unfold stepE stepP
  rw [pm_eq 256 a _ p h1, pm_eq 256 a _ p h2, Nat.mod_add_mod]
def chainP (b32 b64 : Nat) : List (Nat × Nat × Nat) → Nat → Nat × Nat
  | [], _ => (0, 0)
  | [(p, q, a)], i => if stepP b32 b64 p q a ≠ 0 then (stepP b32 b64 p q a, i) else if smallB q then (0, 0) else (7, i)
  | (p, q, a) :: (p', q', a') :: l, i => if stepP b32 b64 p q a ≠ 0 then (stepP b32 b64 p q a, i) else if q ≠ p' then (7, i) else chainP b32 b64 ((p', q', a') :: l) (i + 1)
theorem chainP_eq {b32 b64 : Nat} : ∀ (l : List (Nat × Nat × Nat)) (i : Nat), (∀ x ∈ l, x.1 < 2 ^ 256) → chainE b32 b64 l i = chainP b32 b64 l i
  | [], _, _ => rfl
  | [(p, q, a)], i, h => by
    unfold chainE chainP
    rw [stepP_eq (h _ List.mem_cons_self)]
  | (p, q, a) :: (p', q', a') :: l, i, h => by
    unfold chainE chainP
    rw [stepP_eq (h _ List.mem_cons_self), chainP_eq ((p', q', a') :: l) (i + 1) (fun x hx => h x (List.mem_cons_of_mem _ hx))]
end Num
open Num

/-- what is made is a group -/
theorem gnewE_grp {gn : Nat} {l : List Step3} {x : G4} (h : gnewE gn l = .ok x) : Num.Grp x.1 x.2.1 x.2.2.1 ∧ x.1 < B64 ^ 32 ∧ x.2.2.2 = gsize x.2.1 ∧ x.2.2.2 ≠ 0 ∧ x.2.2.1 = gn := by
  unfold gnewE at h
  split at h
  · exact absurd h (by simp)
  split at h
  · exact absurd h (by simp)
  split at h
  · exact absurd h (by simp)
  split at h
  · exact absurd h (by simp)
  split at h
  · exact absurd h (by simp)
  rename_i h1 h2 h3 h4 h5
  simp only [Except.ok.injEq] at h
  subst h
  obtain _ | ⟨⟨p, q, a⟩, l⟩ := l
  · simp at h1
  simp only [List.headD_cons] at h3 h4 h5 ⊢
  have h2' : (Num.chainE (B64 ^ 32) (B64 ^ 64) ((p, q, a) :: l) 0).1 = 0 := by simpa using h2
  obtain ⟨pp, pq⟩ := Num.chain_pr l 0 p q a h2'
  have hq2 : p / 2 = q := by
    rcases Nat.decEq (p / 2) q with h | h
    · exact absurd (.inl h) h3
    · exact h
  rw [hq2] at h3 h4 h5 ⊢
  have hel : elB p q gn = true := by
    rcases Bool.eq_false_or_eq_true (elB p q gn) with h | h
    · exact h
    · exact absurd (.inl h) h4
  have hp2 := pp.two
  have hodd : p % 2 = 1 := by
    rcases Nat.mod_two_eq_zero_or_one p with h | h
    · rcases pp.only 2 (Nat.dvd_of_mod_eq_zero h) with h | h <;> omega
    · exact h
  refine ⟨⟨pp, pq, by omega, by omega, elB_iff.1 hel, fun h => h4 (.inr h)⟩, ?_, trivial, h5, trivial⟩
  have hs : Num.stepE (B64 ^ 32) (B64 ^ 64) p q a = 0 := by
    cases l with
    | nil =>
      unfold Num.chainE at h2'
      split at h2'
      · rename_i hh; exact absurd h2' hh
      · rename_i hh; simpa using hh
    | cons y l =>
      obtain ⟨p', q', a'⟩ := y
      unfold Num.chainE at h2'
      split at h2'
      · rename_i hh; exact absurd h2' hh
      · rename_i hh; simpa using hh
  unfold Num.stepE at hs
  split at hs
  · omega
  · omega


/-- the chains that are known -/
def knownL : Nat → List Step3
  | 0 => [(100547, 50273, 2)]
  | 1 => [(16384079, 8192039, 2), (8192039, 42227, 2)]
  | 2 => [(895270319, 447635159, 2), (447635159, 45949, 2)]
  | 3 => [(956960304107, 478480152053, 2), (478480152053, 589261271, 2), (589261271, 44879, 2)]
  | 4 => [(51637240540054787, 25818620270027393, 2), (25818620270027393, 962912257, 2), (962912257, 39181, 2)]
  | 5 => [(10783903794068798759, 5391951897034399379, 2), (5391951897034399379, 245088722592472699, 2), (245088722592472699, 540926329, 2), (540926329, 33791, 2)]
  | 6 => [(2613414916021939020899, 1306707458010969510449, 2), (1306707458010969510449, 213235551241998941, 2), (213235551241998941, 869759953, 2), (869759953, 61843, 2)]
  | 7 => [(55552479688485757854533454143, 27776239844242878927266727071, 2), (27776239844242878927266727071, 223751503623384853, 2), (223751503623384853, 998205391, 2), (998205391, 40627, 2)]
  | 8 => [(294346032770963629115021612295688313579, 147173016385481814557510806147844156789, 2), (147173016385481814557510806147844156789, 15920923451480075136035353326248827, 2), (15920923451480075136035353326248827, 193128230530517629, 2), (193128230530517629, 588713921, 2), (588713921, 63439, 2)]
  | 9 => [(5288028264425375924331143837851554665000536648901249581703, 2644014132212687962165571918925777332500268324450624790851, 2), (2644014132212687962165571918925777332500268324450624790851, 17448777177685998800207916726582067, 2), (17448777177685998800207916726582067, 230885128227773927, 2), (230885128227773927, 725375153, 2), (725375153, 34847, 2)]
  | _ => [(98840726623089566538132827080390358131446738208679300614933978093311771294443, 49420363311544783269066413540195179065723369104339650307466989046655885647221, 2), (49420363311544783269066413540195179065723369104339650307466989046655885647221, 71511446119451342619797234764730343874518634852101106178533378230947, 2), (71511446119451342619797234764730343874518634852101106178533378230947, 17487159372623203498255649676474247, 2), (17487159372623203498255649676474247, 238236089707193629, 2), (238236089707193629, 902893669, 2), (902893669, 36901, 2)]
/-- the groups that are known -/
def knownG : Nat → G4
  | 0 => (100547, 50273, 4, 1)
  | 1 => (16384079, 8192039, 4, 2)
  | 2 => (895270319, 447635159, 4, 3)
  | 3 => (956960304107, 478480152053, 4, 4)
  | 4 => (51637240540054787, 25818620270027393, 4, 6)
  | 5 => (10783903794068798759, 5391951897034399379, 4, 7)
  | 6 => (2613414916021939020899, 1306707458010969510449, 4, 8)
  | 7 => (55552479688485757854533454143, 27776239844242878927266727071, 4, 11)
  | 8 => (294346032770963629115021612295688313579, 147173016385481814557510806147844156789, 4, 15)
  | 9 => (5288028264425375924331143837851554665000536648901249581703, 2644014132212687962165571918925777332500268324450624790851, 4, 23)
  | _ => (98840726623089566538132827080390358131446738208679300614933978093311771294443, 49420363311544783269066413540195179065723369104339650307466989046655885647221, 4, 31)

theorem known_chain : ∀ k, k < 11 → chainP (B64 ^ 32) (B64 ^ 64) (knownL k) 0 = (0, 0) ∧ (knownL k).length ≠ 0 ∧ (knownL k).length ≤ 64 ∧ ((knownL k).all fun x => decide (x.1 < 2 ^ 256)) = true := by decide +kernel

theorem known_nums : ∀ k, k < 11 → (knownL k).headD (0, 0, 0) = ((knownG k).1, (knownG k).2.1, ((knownL k).headD (0, 0, 0)).2.2) ∧ (knownG k).1 / 2 = (knownG k).2.1 ∧ 2 < (knownG k).2.1 ∧ (knownG k).2.2.1 = 4 ∧ gsize (knownG k).2.1 = (knownG k).2.2.2 ∧ (knownG k).2.2.2 ≠ 0 ∧
    0 < 4 ∧ 4 < (knownG k).1 ∧ pm 256 4 (knownG k).2.1 (knownG k).1 = 1 ∧ (knownG k).2.1 < 2 ^ 256 := by decide +kernel

theorem known_ok {k : Nat} (hk : k < 11) : gnewE 4 (knownL k) = .ok (knownG k) := by
  obtain ⟨c1, c2, c3, c4⟩ := known_chain k hk
  obtain ⟨n1, n2, n3, n4, n5, n6, n7, n8, n9, n10⟩ := known_nums k hk
  have hc : Num.chainE (B64 ^ 32) (B64 ^ 64) (knownL k) 0 = (0, 0) := by
    rw [chainP_eq _ _ (fun x hx => by simpa using List.all_eq_true.1 c4 x hx)]; exact c1
  have hel : elB (knownG k).1 (knownG k).2.1 4 = true := elB_iff.2 ⟨n7, n8, by rw [← pm_eq 256 _ _ _ n10]; exact n9⟩
  have ex : knownG k = ((knownG k).1, (knownG k).2.1, 4, (knownG k).2.2.2) := by
    conv => lhs; rw [show knownG k = ((knownG k).1, (knownG k).2.1, (knownG k).2.2.1, (knownG k).2.2.2) from rfl, n4]
  unfold gnewE
  rw [ex, if_neg (fun h => h.elim c2 (fun h => Nat.not_lt_of_le c3 h)), hc, if_neg (by simp), n1]
  simp only []
  rw [n2, if_neg (fun h => h.elim (fun h => h rfl) (fun h => Nat.not_lt_of_le h n3)), hel, if_neg (fun h => h.elim (by simp) (by simp)), n5, if_neg n6]

end Go.Proofs.Ytphbacggmhjmgaa
