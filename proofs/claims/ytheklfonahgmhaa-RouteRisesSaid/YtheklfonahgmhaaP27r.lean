/- Stable sorting by a number: the lists of equals, one behind the other. -/
import Derived.Test.YtheklfonahgmhaaMachine4
set_option linter.unusedVariables false
set_option linter.unusedSimpArgs false
namespace Go.Proofs.R
open Go
set_option linter.unusedVariables false
set_option linter.unusedSimpArgs false
theorem fm_congr {α β : Type} {f g : α → List β} : ∀ {l : List α}, (∀ n ∈ l, f n = g n) → l.flatMap f = l.flatMap g
 | [], _ => rfl
 | a :: l, h => by rw [List.flatMap_cons, List.flatMap_cons, h a List.mem_cons_self, fm_congr fun n hn => h n (List.mem_cons_of_mem _ hn)]
section
variable {α : Type} (k : α → Nat)
def buckets (xs : List α) (m : Nat) : List α := (List.range m).flatMap fun n => xs.filter fun x => k x == n
theorem buckets_succ (xs : List α) (m : Nat) : buckets k xs (m + 1) = buckets k xs m ++ xs.filter fun x => k x == m := by
 unfold buckets; rw [List.range_succ, List.flatMap_append]; simp
theorem sorted_split (m : Nat) : ∀ (l : List α), l.Pairwise (fun a b => k a ≤ k b) → (∀ x ∈ l, k x < m + 1) → l = (l.filter fun x => decide (k x < m)) ++ l.filter fun x => k x == m
 | [], _, _ => rfl
 | a :: l, h, hm => by
  rw [List.pairwise_cons] at h
  have ih := sorted_split m l h.2 fun x hx => hm x (List.mem_cons_of_mem _ hx)
  have ha := hm a List.mem_cons_self
  by_cases h1 : k a < m
  ·rw [List.filter_cons_of_pos (by simpa using h1), List.filter_cons_of_neg (by simp; omega), List.cons_append, ← ih]
  ·have e : k a = m := by omega
   have h2 : ∀ x ∈ l, k x = m := fun x hx => by have := h.1 x hx; have := hm x (List.mem_cons_of_mem _ hx); omega
   have e1 : (l.filter fun x => decide (k x < m)) = [] := List.filter_eq_nil_iff.2 fun x hx => by have := h2 x hx; simp; omega
   have e2 : (l.filter fun x => k x == m) = l := List.filter_eq_self.2 fun x hx => by simpa using h2 x hx
   rw [List.filter_cons_of_neg (by simpa using h1), List.filter_cons_of_pos (by simpa using e), e1, e2]; rfl
theorem sorted_buckets : ∀ (m : Nat) (l : List α), l.Pairwise (fun a b => k a ≤ k b) → (∀ x ∈ l, k x < m) → buckets k l m = l
 | 0, l, _, hm => by
  cases l with
  | nil => rfl
  | cons a l => have := hm a List.mem_cons_self; omega
 | m + 1, l, h, hm => by
  have h1 := sorted_split k m l h hm
  have ih := sorted_buckets m (l.filter fun x => decide (k x < m)) (h.sublist List.filter_sublist) (fun x hx => by simpa using (List.mem_filter.1 hx).2)
  rw [buckets_succ]
  conv => rhs; rw [h1]
  congr 1
  rw [← ih]
  conv => rhs; rw [ih]
  unfold buckets at ih ⊢
  rw [← ih]
  refine fm_congr fun n hn => ?_
  rw [List.filter_filter]
  refine List.filter_congr fun x _ => ?_
  have := List.mem_range.1 hn
  by_cases e : k x = n
  ·simp [e, this]
  ·simp [e]
theorem mem_buckets {xs : List α} {m : Nat} {x : α} : x ∈ buckets k xs m ↔ x ∈ xs ∧ k x < m := by
 unfold buckets
 simp only [List.mem_flatMap, List.mem_range, List.mem_filter, beq_iff_eq]
 constructor
 ·rintro ⟨n, h1, h2, rfl⟩; exact ⟨h2, h1⟩
 ·rintro ⟨h1, h2⟩; exact ⟨_, h2, h1, rfl⟩
theorem buckets_perm : ∀ (m : Nat) (xs : List α), (buckets k xs m).Perm (xs.filter fun x => decide (k x < m))
 | 0, xs => by simp [buckets]
 | m + 1, xs => by
  rw [buckets_succ]
  have h1 := List.filter_append_perm (fun x => decide (k x < m)) (xs.filter fun x => decide (k x < m + 1))
  refine List.Perm.trans ?_ h1
  have e1 : ((xs.filter fun x => decide (k x < m + 1)).filter fun x => decide (k x < m)) = xs.filter fun x => decide (k x < m) := by
   rw [List.filter_filter]
   refine List.filter_congr fun x _ => ?_
   by_cases h : k x < m <;> simp [h] <;> omega
  have e2 : ((xs.filter fun x => decide (k x < m + 1)).filter fun x => !decide (k x < m)) = xs.filter fun x => k x == m := by
   rw [List.filter_filter]
   refine List.filter_congr fun x _ => ?_
   by_cases h : k x = m
   ·simp [h]
   ·by_cases h2 : k x < m
    ·simp [h, h2]
    ·have : ¬ k x < m + 1 := by omega
     simp [h, h2, this]
  rw [e1, e2]
  exact (buckets_perm m xs).append_right _
theorem buckets_asc : ∀ (m : Nat) (xs : List α), (buckets k xs m).Pairwise fun a b => k a ≤ k b
 | 0, xs => by simp [buckets]
 | m + 1, xs => by
  rw [buckets_succ, List.pairwise_append]
  refine ⟨buckets_asc m xs, ?_, ?_⟩
  ·refine List.Pairwise.imp_of_mem ?_ (List.pairwise_of_forall (R := fun _ _ => True) fun _ _ => trivial)
   intro a b ha hb _
   have h1 := (List.mem_filter.1 ha).2
   have h2 := (List.mem_filter.1 hb).2
   simp only [beq_iff_eq] at h1 h2
   omega
  ·intro a ha b hb
   have h1 := ((mem_buckets k).1 ha).2
   have h2 := (List.mem_filter.1 hb).2
   simp only [beq_iff_eq] at h2
   omega
theorem buckets_filter (n : Nat) : ∀ (m : Nat) (xs : List α), n < m → ((buckets k xs m).filter fun x => k x == n) = xs.filter fun x => k x == n
 | m + 1, xs, h => by
  rw [buckets_succ, List.filter_append, List.filter_filter]
  by_cases hn : n = m
  ·subst hn
   have e1 : ((buckets k xs n).filter fun x => k x == n) = [] := List.filter_eq_nil_iff.2 fun x hx => by
    have := ((mem_buckets k).1 hx).2
    simp; omega
   rw [e1, List.nil_append]
   exact List.filter_congr fun x _ => by simp
  ·have e1 : (xs.filter fun x => (k x == n) && (k x == m)) = [] := List.filter_eq_nil_iff.2 fun x hx => by
    simp; omega
   rw [e1, List.append_nil]
   exact buckets_filter n m xs (by omega)
theorem sortB_buckets {cmp : α → α → Option Int} {cf : α → α → Int} {xs : List α} {m : Nat} (hc : ∀ x ∈ xs, ∀ y ∈ xs, cmp x y = some (cf x y)) (hk : ∀ x y, cf x y < 0 ↔ k x < k y) (hm : ∀ x ∈ xs, k x < m) :
  sortB true cmp xs = some (buckets k xs m) := by
 have hn : ∀ x y, ¬ cf x y < 0 ↔ k y ≤ k x := fun x y => by rw [hk]; omega
 have he : ∀ x z, eqvB cf x z = (k z == k x) := by
  intro x z
  unfold eqvB
  rw [Bool.eq_iff_iff]
  simp only [Bool.and_eq_true, Bool.not_eq_true', decide_eq_false_iff_not, hn, beq_iff_eq]
  omega
 have hf : (xs.filter fun x => decide (k x < m)) = xs := List.filter_eq_self.2 fun x hx => by simpa using hm x hx
 refine sortB_some.2 ⟨cf, hc, ⟨fun x _ => (hn x x).2 (Nat.le_refl _), fun x _ y _ z _ h1 h2 => (hk x z).2 (Nat.lt_trans ((hk x y).1 h1) ((hk y z).1 h2)), fun x _ y _ z _ h1 h2 => (hn x z).2 (Nat.le_trans ((hn y z).1 h2) ((hn x y).1 h1))⟩,
  ⟨by have := buckets_perm k m xs; rwa [hf] at this, (buckets_asc k m xs).imp fun h => (hn _ _).2 h, fun _ x hx => ?_⟩, ?_⟩
 ·have e : eqvB cf x = fun z => k z == k x := funext fun z => he x z
  rw [e]; exact buckets_filter k (k x) m xs (hm x hx)
 ·intro r' hr
  have h1 := sorted_buckets k m r' (hr.asc.imp fun h => (hn _ _).1 h) (fun x hx => hm x (hr.perm.mem_iff.1 hx))
  rw [← h1]
  unfold buckets
  refine fm_congr fun n hn' => ?_
  by_cases hx : ∃ x ∈ xs, k x = n
  ·obtain ⟨x, hx, rfl⟩ := hx
   have := hr.stab rfl x hx
   have e : eqvB cf x = fun z => k z == k x := funext fun z => he x z
   rw [e] at this; exact this
  ·rw [List.filter_eq_nil_iff.2 (fun x hxm hh => hx ⟨x, hr.perm.mem_iff.1 hxm, by simpa using hh⟩), List.filter_eq_nil_iff.2 (fun x hxm hh => hx ⟨x, hxm, by simpa using hh⟩)]
end
end Go.Proofs.R
