/- Bridges: the law. -/
import Derived.Test.YtpkckffbdojegaaP27x
set_option linter.unusedVariables false
set_option linter.unusedSimpArgs false
namespace Go.Proofs.K27
open Go Go.Proofs.R
set_option linter.unusedVariables false
set_option linter.unusedSimpArgs false
set_option linter.unusedSectionVars false
set_option maxRecDepth 100000

theorem nodup_le : ∀ (n : Nat) (l : List Nat), l.Nodup → (∀ x ∈ l, x < n) → l.length ≤ n
  | 0, l, _, h => by
    cases l with
    | nil => simp
    | cons a l => have := h a (by simp); omega
  | n + 1, l, hd, h => by
    by_cases hn : n ∈ l
    · have h1 := nodup_le n (l.erase n) (hd.erase n) (fun x hx => by
        have h2 := List.mem_of_mem_erase hx
        have h3 : x ≠ n := by
          rintro rfl
          exact (List.Nodup.mem_erase_iff hd).1 hx |>.1 rfl
        have := h x h2
        omega)
      rw [List.length_erase_of_mem hn] at h1
      omega
    · have := nodup_le n l hd (fun x hx => by
        have h3 : x ≠ n := by rintro rfl; exact hn hx
        have := h x hx
        omega)
      omega


abbrev TI : Ty := .int .i64
def keys (m : List (Int × Bool)) : List Int := m.map (·.1)
theorem keyEqI (x y : Int) : keyEq TI x y = decide (x = y) := rfl
theorem keys_mput (k : Int) (v : Bool) : ∀ (m : List (Int × Bool)) (x : Int), x ∈ keys (mput TI k v m) ↔ x = k ∨ x ∈ keys m
  | [], x => by simp [mput, keys]
  | p :: m, x => by
    have ih := keys_mput k v m x
    unfold keys at ih ⊢
    simp only [mput, keyEqI]
    by_cases h : k = p.1
    · rw [decide_eq_true h, cond_true]
      simp only [List.map_cons, List.mem_cons, h]
      constructor
      · exact .inr
      · rintro (h1 | h1)
        · exact .inl h1
        · exact h1
    · rw [decide_eq_false h, cond_false]
      simp only [List.map_cons, List.mem_cons, ih]
      constructor
      · rintro (h1 | h1 | h1)
        · exact .inr (.inl h1)
        · exact .inl h1
        · exact .inr (.inr h1)
      · rintro (h1 | h1 | h1)
        · exact .inr (.inl h1)
        · exact .inl h1
        · exact .inr (.inr h1)
theorem eachB_r {α ρ : Type} {xs : List α} {k : Nat} {seen : List Nat} {d : Option ρ} {f : Nat → α → Option ρ} {r : ρ} (h : xs.length = k) (hs : ∀ j x, xs[j]? = some x → j ∉ seen → f j x = some r) (hd : (∀ j, j < k → j ∈ seen) → d = some r) : eachB xs k seen d f = some r := by
  unfold eachB
  rw [if_pos h]
  by_cases hex : ∃ j, j < k ∧ j ∉ seen
  · rw [if_pos hex]
    have h2 : ∃ r, ∀ j x, xs[j]? = some x → j ∉ seen → f j x = some r := ⟨r, hs⟩
    rw [dif_pos h2]
    obtain ⟨j, hj, hjs⟩ := hex
    have hx : xs[j]? = some xs[j] := List.getElem?_eq_getElem (by omega)
    have h3 := h2.choose_spec j _ hx hjs
    rw [hs j _ hx hjs] at h3
    exact h3.symm
  · rw [if_neg hex]
    refine hd fun j hj => ?_
    by_cases hm : j ∈ seen
    · exact hm
    · exact (hex ⟨j, hj, hm⟩).elim
theorem entry_at {α : Type} {xs : List α} {seen : List Nat} {j : Nat} {x : α} (h : xs[j]? = some x) : entryAt xs xs.length (seenAdd seen j) = some x := by
  unfold entryAt seenAdd
  rw [if_pos rfl]; simp [h]

section
variable {L S : Int} {N : LLI} {A : LB}
def putR (j i : Nat) : List Int → Nat → List (Int × Bool) → List (Int × Bool)
  | [], _, nx => nx
  | t :: r, l, nx => putR j i r (l + 1) (bif decide (t ≥ 0) && (decide (i ≠ j - 1) || decide (l < 2)) then mput TI t true nx else nx)
theorem putR_keys (j i : Nat) : ∀ (r : List Int) (l : Nat) (nx : List (Int × Bool)) (x : Int), x ∈ keys (putR j i r l nx) ↔ x ∈ keys nx ∨ ∃ (l' t : Nat), r[l']? = some (t : Int) ∧ x = t ∧ Qp j i (l + l')
  | [], l, nx, x => by simp [putR]
  | y :: r, l, nx, x => by
    rw [putR, putR_keys j i r (l + 1)]
    have key : x ∈ keys (bif decide (y ≥ 0) && (decide (i ≠ j - 1) || decide (l < 2)) then mput TI y true nx else nx) ↔ x ∈ keys nx ∨ (∃ t : Nat, y = t ∧ x = t ∧ Qp j i l) := by
      by_cases h0 : y ≥ 0
      · by_cases hq : Qp j i l
        · have : (decide (y ≥ 0) && (decide (i ≠ j - 1) || decide (l < 2))) = true := by
            rw [decide_eq_true h0]
            unfold Qp at hq
            simpa using hq
          rw [this, cond_true, keys_mput]
          constructor
          · rintro (h1 | h1)
            · exact .inr ⟨y.toNat, by omega, by omega, hq⟩
            · exact .inl h1
          · rintro (h1 | ⟨t, h1, h2, _⟩)
            · exact .inr h1
            · exact .inl (by omega)
        · have : (decide (y ≥ 0) && (decide (i ≠ j - 1) || decide (l < 2))) = false := by
            rw [decide_eq_true h0]
            unfold Qp at hq
            simpa using hq
          rw [this, cond_false]
          constructor
          · exact .inl
          · rintro (h1 | ⟨t, _, _, h2⟩)
            · exact h1
            · exact (hq h2).elim
      · rw [decide_eq_false h0, Bool.false_and, cond_false]
        constructor
        · exact .inl
        · rintro (h1 | ⟨t, h1, _, _⟩)
          · exact h1
          · omega
    rw [key]
    constructor
    · rintro ((h1 | ⟨t, h1, h2, h3⟩) | ⟨l', t, h1, h2, h3⟩)
      · exact .inl h1
      · exact .inr ⟨0, t, by simpa using h1, h2, h3⟩
      · exact .inr ⟨l' + 1, t, by simpa using h1, h2, by rw [show l + (l' + 1) = l + 1 + l' by omega]; exact h3⟩
    · rintro (h1 | ⟨l', t, h1, h2, h3⟩)
      · exact .inl (.inl h1)
      · cases l' with
        | zero => exact .inl (.inr ⟨t, by simpa using h1, h2, h3⟩)
        | succ l' => exact .inr ⟨l', t, by simpa using h1, h2, by rw [show l + 1 + l' = l + (l' + 1) by omega]; exact h3⟩

theorem wo_l10 {n i j : Nat} (hj : 0 < j ∧ j ≤ 60) (hi : i ≤ 60) {r : List Int} (hr : r.length ≤ 8) {k : Nat} {seen : List Nat} {m : List (Int × Bool)} : ∀ (suf pre : List Int) (nx : List (Int × Bool)), r = pre ++ suf →
    caesura_without.l10 (j : Int) (i : Int) (n : Int) (i : Int) r ((r.length : Nat) : Int) ((pre.length : Nat) : Int) L S N A nx k seen m = caesura_without.l7 (j : Int) (i : Int) (n : Int) (i : Int) L S N A (putR j i suf pre.length nx) k seen m
  | [], pre, nx, e => by rw [caesura_without.l10_eq, ifB_not _ _ (decide_eq_false (by rw [e]; simp))]; rfl
  | t :: suf, pre, nx, e => by
    have hpl : pre.length < 8 := by rw [e] at hr; simp at hr; omega
    have hwp : IntKind.i64.wrap (((pre.length : Nat) : Int) + 1) = (((pre ++ [t]).length : Nat) : Int) := by rw [w64_succ (by omega)]; simp
    have hxt : ixAt r ((pre.length : Nat) : Int) = some t := by rw [e]; exact ixAt_at _ _ _
    have hpl2 : (pre ++ [t]).length = pre.length + 1 := by simp
    have hwj : IntKind.i64.wrap ((j : Int) - 1) = ((j - 1 : Nat) : Int) := by rw [show ((j : Int) - 1) = ((j - 1 : Nat) : Int) by omega]; exact w64_nat (by omega)
    have ih := fun nx => wo_l10 (n := n) hj hi hr (k := k) (seen := seen) (m := m) suf (pre ++ [t]) nx (by rw [e]; simp)
    rw [caesura_without.l10_eq, ifB_of _ _ (decide_eq_true (by rw [e]; simp; omega)), hxt, bindD_some, hwp, hwj]
    unfold putR
    rw [← hpl2]
    by_cases h0 : t ≥ 0
    · rw [ifB_of _ _ (decide_eq_true h0), decide_eq_true h0]
      by_cases h1 : i = j - 1
      · rw [ifB_not _ _ (by rw [h1]; simp)]
        by_cases h2 : pre.length < 2
        · rw [ifB_of _ _ (decide_eq_true (by omega)), ih]; simp [h1, h2]
        · rw [ifB_not _ _ (decide_eq_false (by omega)), ih]; simp [h1, h2]
      · rw [ifB_of _ _ (bne_iff_ne.2 (by omega)), ih]; simp [h1]
    · rw [ifB_not _ _ (decide_eq_false h0), decide_eq_false h0, ih]; simp

def Succ (N : LLI) (j i : Nat) (y x : Int) : Prop := ∃ s l t : Nat, y = s ∧ x = t ∧ edge N s l t ∧ Qp j i l
theorem wo_l7 (h : V L S N A) {n i j : Nat} (hj : 0 < j ∧ j ≤ 60) (hi : i ≤ 60) {m : List (Int × Bool)} (hm : ∀ p ∈ m, ∃ s : Nat, p.1 = s ∧ s < N.length) {R : Bool × Unit}
    (hR : ∀ nx, (∀ x, x ∈ keys nx ↔ ∃ p ∈ m, Succ N j i p.1 x) → caesura_without.l3 (j : Int) (n : Int) ((i + 1 : Nat) : Int) L S N A nx = some R) : ∀ (f : Nat) (seen : List Nat) (nx : List (Int × Bool)), seen.Nodup → (∀ a ∈ seen, a < m.length) → seen.length + f = m.length →
    (∀ x, x ∈ keys nx ↔ ∃ a ∈ seen, ∃ p, m[a]? = some p ∧ Succ N j i p.1 x) → caesura_without.l7 (j : Int) (i : Int) (n : Int) (i : Int) L S N A nx m.length seen m = some R := by
  intro f
  induction f with
  | zero =>
    intro seen nx hnd hlt hlen hk
    have hall : ∀ a, a < m.length → a ∈ seen := by
      intro a ha
      by_cases hm : a ∈ seen
      · exact hm
      · have := nodup_le m.length (a :: seen) (List.nodup_cons.2 ⟨hm, hnd⟩) (fun x hx => by rcases List.mem_cons.1 hx with rfl | hx; exact ha; exact hlt x hx)
        simp at this; omega
    rw [caesura_without.l7_eq]
    refine eachB_r rfl (fun a p ha hs => (hs (hall a (List.getElem?_eq_some_iff.1 ha).1)).elim) (fun _ => ?_)
    rw [w64_succ (by omega)]
    refine hR nx fun x => (hk x).trans ?_
    constructor
    · rintro ⟨a, _, p, hp, h1⟩; exact ⟨p, List.mem_of_getElem? hp, h1⟩
    · rintro ⟨p, hp, h1⟩
      obtain ⟨a, ha⟩ := List.mem_iff_getElem?.1 hp
      exact ⟨a, hall a (List.getElem?_eq_some_iff.1 ha).1, p, ha, h1⟩
  | succ f ih =>
    intro seen nx hnd hlt hlen hk
    rw [caesura_without.l7_eq]
    refine eachB_r rfl (fun a p ha hs => ?_) (fun hall => ?_)
    · have halt := (List.getElem?_eq_some_iff.1 ha).1
      obtain ⟨s, hs1, hs2⟩ := hm p (List.mem_of_getElem? ha)
      have hr : N[s]? = some N[s] := List.getElem?_eq_getElem hs2
      have hr8 : (N[s]).length ≤ 8 := by have := (h.row _ (List.getElem_mem hs2)).1; have := h.l8; omega
      have h10 := wo_l10 (L := L) (S := S) (N := N) (A := A) (n := n) hj hi hr8 (k := m.length) (seen := seenAdd seen a) (m := m) N[s] [] nx rfl
      simp only [List.length_nil] at h10
      rw [show ((0 : Nat) : Int) = 0 from rfl] at h10
      rw [entry_at ha, bindD_some, hs1, ixAt_nat, hr, bindD_some, h10]
      refine ih (seenAdd seen a) _ ?_ ?_ ?_ ?_
      · unfold seenAdd
        rw [List.nodup_append]
        exact ⟨hnd, by simp, fun x hx y hy e => by simp at hy; subst hy; subst e; exact hs hx⟩
      · intro x hx
        unfold seenAdd at hx
        rcases List.mem_append.1 hx with hx | hx
        · exact hlt x hx
        · simp at hx; subst hx; exact halt
      · unfold seenAdd; simp; omega
      · intro x
        rw [putR_keys, hk]
        unfold seenAdd
        constructor
        · rintro (⟨b, hb, q, hq, h1⟩ | ⟨l, t, h1, h2, h3⟩)
          · exact ⟨b, List.mem_append_left _ hb, q, hq, h1⟩
          · exact ⟨a, by simp, p, ha, s, l, t, hs1, h2, ⟨_, hr, h1⟩, by simpa using h3⟩
        · rintro ⟨b, hb, q, hq, h1⟩
          rcases List.mem_append.1 hb with hb | hb
          · exact .inl ⟨b, hb, q, hq, h1⟩
          · simp at hb; subst hb
            rw [ha] at hq; cases hq
            obtain ⟨s', l, t, e1, e2, ⟨r, hr', hl⟩, h3⟩ := h1
            have : s' = s := by omega
            subst this
            rw [hr] at hr'; cases hr'
            exact .inr ⟨l, t, hl, e2, by simpa using h3⟩
    · rw [w64_succ (by omega)]
      refine hR nx fun x => (hk x).trans ?_
      constructor
      · rintro ⟨a, _, p, hp, h1⟩; exact ⟨p, List.mem_of_getElem? hp, h1⟩
      · rintro ⟨p, hp, h1⟩
        obtain ⟨a, ha⟩ := List.mem_iff_getElem?.1 hp
        exact ⟨a, hall a (List.getElem?_eq_some_iff.1 ha).1, p, ha, h1⟩
open Classical in
theorem wo_l18 (h : V L S N A) {m : List (Int × Bool)} (hm : ∀ p ∈ m, ∃ s : Nat, p.1 = s ∧ s < N.length) : ∀ (f : Nat) (seen : List Nat), seen.Nodup → (∀ a ∈ seen, a < m.length) → seen.length + f = m.length →
    (∀ a ∈ seen, ∀ p, m[a]? = some p → A[p.1.toNat]? ≠ some true) → caesura_without.l18 L S N A m.length seen m = some (decide (∃ p ∈ m, A[p.1.toNat]? = some true), ()) := by
  intro f
  induction f with
  | zero =>
    intro seen hnd hlt hlen hk
    have hall : ∀ a, a < m.length → a ∈ seen := by
      intro a ha
      by_cases hm : a ∈ seen
      · exact hm
      · have := nodup_le m.length (a :: seen) (List.nodup_cons.2 ⟨hm, hnd⟩) (fun x hx => by rcases List.mem_cons.1 hx with rfl | hx; exact ha; exact hlt x hx)
        simp at this; omega
    rw [caesura_without.l18_eq]
    refine eachB_r rfl (fun a p ha hs => (hs (hall a (List.getElem?_eq_some_iff.1 ha).1)).elim) (fun _ => ?_)
    rw [decide_eq_false]
    rintro ⟨p, hp, h1⟩
    obtain ⟨a, ha⟩ := List.mem_iff_getElem?.1 hp
    exact hk a (hall a (List.getElem?_eq_some_iff.1 ha).1) p ha h1
  | succ f ih =>
    intro seen hnd hlt hlen hk
    rw [caesura_without.l18_eq]
    refine eachB_r rfl (fun a p ha hs => ?_) (fun hall => ?_)
    · have halt := (List.getElem?_eq_some_iff.1 ha).1
      obtain ⟨s, hs1, hs2⟩ := hm p (List.mem_of_getElem? ha)
      have hA : A[s]? = some (A[s]'(by rw [h.a]; exact hs2)) := List.getElem?_eq_getElem (by rw [h.a]; exact hs2)
      rw [entry_at ha, bindD_some, hs1, ixAt_nat, hA, bindD_some]
      cases hb : A[s]'(by rw [h.a]; exact hs2) with
      | true =>
        rw [ifB_true, decide_eq_true]
        exact ⟨p, List.mem_of_getElem? ha, by rw [hs1, Int.toNat_natCast, hA, hb]⟩
      | false =>
        rw [ifB_false]
        refine ih (seenAdd seen a) ?_ ?_ ?_ ?_
        · unfold seenAdd
          rw [List.nodup_append]
          exact ⟨hnd, by simp, fun x hx y hy e => by simp at hy; subst hy; subst e; exact hs hx⟩
        · intro x hx
          unfold seenAdd at hx
          rcases List.mem_append.1 hx with hx | hx
          · exact hlt x hx
          · simp at hx; subst hx; exact halt
        · unfold seenAdd; simp; omega
        · intro b hb2 q hq
          unfold seenAdd at hb2
          rcases List.mem_append.1 hb2 with hb2 | hb2
          · exact hk b hb2 q hq
          · simp at hb2; subst hb2
            rw [ha] at hq; cases hq
            rw [hs1, Int.toNat_natCast, hA, hb]; simp
    · rw [decide_eq_false]
      rintro ⟨p, hp, h1⟩
      obtain ⟨a, ha⟩ := List.mem_iff_getElem?.1 hp
      exact hk a (hall a (List.getElem?_eq_some_iff.1 ha).1) p ha h1
def Rep (m : List (Int × Bool)) (X : Nat → Prop) : Prop := ∀ x, x ∈ keys m ↔ ∃ s : Nat, x = s ∧ X s
open Classical in
theorem wo_l3 (h : V L S N A) {n j s0 : Nat} (hs0 : s0 < N.length) (hj : 0 < j ∧ j ≤ 60) (hn : n ≤ 60) : ∀ (f i : Nat) (m : List (Int × Bool)), i + f = n → Rep m (Rch N s0 (Qp j) i) →
    caesura_without.l3 (j : Int) (n : Int) (i : Int) L S N A m = some (decide (∃ s, Rch N s0 (Qp j) n s ∧ A[s]? = some true), ())
  | 0, i, m, e, hr => by
    have hin : i = n := by omega
    subst hin
    have hm : ∀ p ∈ m, ∃ s : Nat, p.1 = s ∧ s < N.length := by
      intro p hp
      obtain ⟨s, h1, h2⟩ := (hr p.1).1 (List.mem_map_of_mem (f := (·.1)) hp)
      exact ⟨s, h1, rch_lt h hs0 h2⟩
    rw [caesura_without.l3_eq, ifB_not _ _ (decide_eq_false (by omega)), wo_l18 h hm m.length [] (by simp) (by simp) (by simp) (by simp)]
    congr 2
    refine decide_eq_decide.2 ⟨?_, ?_⟩
    · rintro ⟨p, hp, h1⟩
      obtain ⟨s, h2, h3⟩ := (hr p.1).1 (List.mem_map_of_mem (f := (·.1)) hp)
      rw [h2, Int.toNat_natCast] at h1
      exact ⟨s, h3, h1⟩
    · rintro ⟨s, h1, h2⟩
      obtain ⟨p, hp, h3⟩ := List.mem_map.1 ((hr (s : Int)).2 ⟨s, rfl, h1⟩)
      exact ⟨p, hp, by rw [h3, Int.toNat_natCast]; exact h2⟩
  | f + 1, i, m, e, hr => by
    have hm : ∀ p ∈ m, ∃ s : Nat, p.1 = s ∧ s < N.length := by
      intro p hp
      obtain ⟨s, h1, h2⟩ := (hr p.1).1 (List.mem_map_of_mem (f := (·.1)) hp)
      exact ⟨s, h1, rch_lt h hs0 h2⟩
    rw [caesura_without.l3_eq, ifB_of _ _ (decide_eq_true (by omega))]
    refine wo_l7 h hj (by omega) hm (fun nx hk => wo_l3 h hs0 hj hn f (i + 1) nx (by omega) fun x => (hk x).trans ?_) m.length [] [] (by simp) (by simp) (by simp) (by simp [keys])
    unfold Succ Rch
    constructor
    · rintro ⟨p, hp, s, l, t, h1, h2, h3, h4⟩
      obtain ⟨s', h5, h6⟩ := (hr p.1).1 (List.mem_map_of_mem (f := (·.1)) hp)
      have : s' = s := by omega
      subst this
      exact ⟨t, h2, s', l, h6, h3, h4⟩
    · rintro ⟨t, h1, s, l, h2, h3, h4⟩
      obtain ⟨p, hp, h5⟩ := List.mem_map.1 ((hr (s : Int)).2 ⟨s, rfl, h2⟩)
      exact ⟨p, hp, s, l, t, h5, h1, h3, h4⟩
open Classical in
theorem without_f (h : V L S N A) {n j s0 : Nat} (hS : S = s0) (hs0 : s0 < N.length) (hj : 0 < j ∧ j ≤ n) (hn : n ≤ 60) : caesura_without.f L S N A (n : Int) (j : Int) = some (decide (EndsAt N A s0 n (fun l => l < 2) j), ()) := by
  rw [caesura_without.f_eq]
  have := wo_l3 h (n := n) (j := j) hs0 ⟨hj.1, by omega⟩ hn n 0 (mput TI S true []) (by omega) (fun x => by
    rw [keys_mput]
    simp only [keys, Rch, List.map_nil, List.not_mem_nil, or_false]
    constructor
    · intro hx; exact ⟨s0, by omega, rfl⟩
    · rintro ⟨s, h1, h2⟩; omega)
  rw [show ((0 : Nat) : Int) = 0 from rfl] at this
  rw [this]
  congr 2
  exact decide_eq_decide.2 (without_iff hj.1 hj.2)

/-! ### places -/
def plc (test : Nat → Bool) : Nat → Nat → List Int
  | 0, _ => []
  | f + 1, p => (bif test p then [((p : Nat) : Int)] else []) ++ plc test f (p + 1)
theorem plc_mem (test : Nat → Bool) : ∀ (f p : Nat) (x : Int), x ∈ plc test f p ↔ ∃ j : Nat, p ≤ j ∧ j < p + f ∧ x = (j : Int) ∧ test j = true
  | 0, p, x => by
    simp only [plc, List.not_mem_nil, false_iff]
    rintro ⟨j, h1, h2, _⟩; omega
  | f + 1, p, x => by
    rw [plc, List.mem_append, plc_mem test f (p + 1)]
    constructor
    · rintro (h1 | ⟨j, h1, h2, h3⟩)
      · cases ht : test p with
        | false => rw [ht] at h1; cases h1
        | true => rw [ht] at h1; simp at h1; exact ⟨p, by omega, by omega, h1, ht⟩
      · exact ⟨j, by omega, by omega, h3⟩
    · rintro ⟨j, h1, h2, h3, h4⟩
      by_cases e : j = p
      · subst e; left; rw [h4]; simpa using h3
      · exact .inr ⟨j, by omega, by omega, h3, h4⟩
theorem plc_congr {t u : Nat → Bool} : ∀ (f p : Nat), (∀ j, p ≤ j → j < p + f → t j = u j) → plc t f p = plc u f p
  | 0, _, _ => rfl
  | f + 1, p, h => by rw [plc, plc, h p (Nat.le_refl _) (by omega), plc_congr f (p + 1) fun j h1 h2 => h j (by omega) (by omega)]

theorem idx_l2 (x : Int) : ∀ (suf pre : List Int), (pre ++ suf).length < 4611686018427387904 →
    ∃ i : Int, slices_Index_int_int.l2 (pre ++ suf) x ((pre ++ suf).length : Nat) (pre.length : Nat) = some (i, ()) ∧ decide (i ≥ 0) = decide (x ∈ suf)
  | [], pre, hl => by rw [slices_Index_int_int.l2_eq, ifB_not _ _ (lt_end pre)]; exact ⟨-1, rfl, rfl⟩
  | y :: suf, pre, hl => by
    rw [slices_Index_int_int.l2_eq, ifB_of _ _ (lt_at pre y suf), ixAt_at, bindD_some]
    by_cases hb : x = y
    · rw [ifB_of _ _ (by simp [hb])]; exact ⟨_, rfl, by simp [hb]⟩
    · rw [ifB_not _ _ (beq_eq_false_iff_ne.2 hb)]
      obtain ⟨i, h1, h2⟩ := idx_l2 x suf (pre ++ [y]) (by rw [← app_at]; exact hl)
      refine ⟨i, ?_, by simp [hb, h2]⟩
      rw [w_at hl, app_at pre y suf]; exact h1
theorem contains_f (l : List Int) (x : Int) (hl : l.length < 1000000) : slices_Contains_int_int.f l x = some (decide (x ∈ l), ()) := by
  obtain ⟨i, h1, h2⟩ := idx_l2 x l [] (by simp; omega)
  rw [slices_Contains_int_int.f_eq, slices_Index_int_int.f_eq]
  simp only [List.nil_append, List.length_nil] at h1
  rw [show ((0 : Nat) : Int) = 0 from rfl] at h1
  rw [h1]; simp only [bindD_some, h2]
theorem inner_l3 (l : List Int) (hl : l.length < 1000000) {n : Nat} (hn : n ≤ 60) : ∀ (f p : Nat) (out : List Int), f = n - p → out.length ≤ p → p ≤ 61 →
    caesura_inner.l3 (n : Int) l (p : Int) out = some (out ++ plc (fun j => !decide ((j : Int) ∈ l)) f p, ())
  | 0, p, out, e, ho, hp => by rw [caesura_inner.l3_eq, ifB_not _ _ (decide_eq_false (by omega))]; simp [plc]
  | f + 1, p, out, e, ho, hp => by
    have ih := fun out ho => inner_l3 l hl hn f (p + 1) out (by omega) ho (by omega)
    rw [caesura_inner.l3_eq, ifB_of _ _ (decide_eq_true (by omega)), caesura_Bridges_1.f_eq, contains_f l _ hl, bindD_some, bindD_some, w64_succ (by omega)]
    unfold plc
    by_cases hm : (p : Int) ∈ l
    · rw [decide_eq_true hm, ifB_not _ _ (by rfl), ih out (by omega)]; simp
    · rw [decide_eq_false hm, ifB_of _ _ (by rfl), grow_ok (by simp; omega), bindD_some, ih _ (by simp; omega)]; simp
theorem others_l7 {n p : Nat} (hp : p ≤ 60) : ∀ (suf pre : List Int) (b : Bool) (out : List Int), (pre ++ suf).length < 1000000 → out.length ≤ 60 →
    ancepsref27_others.l7 (pre ++ suf) (n : Int) (p : Int) b ((pre.length : Nat) : Int) out = ancepsref27_others.l3 (pre ++ suf) (n : Int) ((p + 1 : Nat) : Int) (bif b || decide ((p : Int) ∈ suf) then out else out ++ [((p : Nat) : Int)])
  | [], pre, b, out, hl, ho => by
    rw [ancepsref27_others.l7_eq, ifB_not _ _ (lt_end pre), w64_succ (by omega)]
    cases b with
    | true => rfl
    | false => rw [ifB_of _ _ (by rfl), grow_ok (by simp; omega), bindD_some]; rfl
  | y :: suf, pre, b, out, hl, ho => by
    have ih := fun b => others_l7 (n := n) hp suf (pre ++ [y]) b out (by rw [← app_at]; exact hl) ho
    rw [ancepsref27_others.l7_eq, ifB_of _ _ (lt_at pre y suf), w_at (x := y) (s := suf) (by omega)]
    rw [← app_at] at ih
    cases b with
    | true => rw [ifB_true, ih]; simp
    | false =>
      rw [ifB_false, ixAt_at, bindD_some, ih]
      by_cases h : y = (p : Int)
      · simp [h]
      · have h' : ¬ (p : Int) = y := fun e => h e.symm
        simp [h, h', beq_eq_false_iff_ne.2 h]
theorem others_l3 (l : List Int) (hl : l.length < 1000000) {n : Nat} (hn : n ≤ 60) : ∀ (f p : Nat) (out : List Int), f = n - p → out.length ≤ p → p ≤ 61 →
    ancepsref27_others.l3 l (n : Int) (p : Int) out = some (out ++ plc (fun j => !decide ((j : Int) ∈ l)) f p, ())
  | 0, p, out, e, ho, hp => by rw [ancepsref27_others.l3_eq, ifB_not _ _ (decide_eq_false (by omega))]; simp [plc]
  | f + 1, p, out, e, ho, hp => by
    have ih := fun out ho => others_l3 l hl hn f (p + 1) out (by omega) ho (by omega)
    have h7 := others_l7 (n := n) (p := p) (by omega) l [] false out (by simpa using hl) (by omega)
    simp only [List.nil_append, List.length_nil] at h7
    rw [show ((0 : Nat) : Int) = 0 from rfl] at h7
    rw [ancepsref27_others.l3_eq, ifB_of _ _ (decide_eq_true (by omega)), h7]
    unfold plc
    by_cases hm : (p : Int) ∈ l
    · simp only [decide_eq_true hm, Bool.false_or, cond_true, Bool.not_true, cond_false]; rw [ih out (by omega)]; simp
    · simp only [decide_eq_false hm, Bool.false_or, cond_false, Bool.not_false, cond_true]; rw [ih _ (by simp; omega)]; simp
open Classical in
theorem always_l3 (h : V L S N A) {n s0 : Nat} (hS : S = s0) (hs0 : s0 < N.length) (hn : n ≤ 60) : ∀ (f p : Nat) (out : List Int), f = n - p → out.length ≤ p → 1 ≤ p → p ≤ 61 →
    caesura_inner.l3_1 (n : Int) L S N A (n : Int) (p : Int) out = some (out ++ plc (fun j => !decide (EndsAt N A s0 n (fun l => l < 2) j)) f p, ())
  | 0, p, out, e, ho, h1, hp => by rw [caesura_inner.l3_1_eq, ifB_not _ _ (decide_eq_false (by omega))]; simp [plc]
  | f + 1, p, out, e, ho, h1, hp => by
    have ih := fun out ho => always_l3 h hS hs0 hn f (p + 1) out (by omega) ho (by omega) (by omega)
    rw [caesura_inner.l3_1_eq, ifB_of _ _ (decide_eq_true (by omega)), caesura_Always_1.f_eq, without_f h hS hs0 ⟨by omega, by omega⟩ hn, bindD_some, bindD_some, w64_succ (by omega)]
    unfold plc
    by_cases hm : EndsAt N A s0 n (fun l => l < 2) p
    · rw [decide_eq_true hm, ifB_not _ _ (by rfl), ih out (by omega)]; simp
    · rw [decide_eq_false hm, ifB_of _ _ (by rfl), grow_ok (by simp; omega), bindD_some, ih _ (by simp; omega)]; simp

theorem turn_l5 (h : V L S N A) (hL : L = 4) {n : Int} {a b c d : Int} : ∀ (suf pre : LLI), N = pre ++ suf →
    ancepsref27_Always.l5 n ((pre.length : Nat) : Int) L S N A c d A (turnN pre) = ancepsref27_Always.l5 n ((N.length : Nat) : Int) L S N A c d A (turnN N)
  | [], pre, e => by
    have : N = pre := by rw [e]; simp
    rw [← this]
  | r :: suf, pre, e => by
    have hn4 := h.n
    have hlen : N.length = pre.length + (suf.length + 1) := by rw [e]; simp
    have h1 := (h.row r (by rw [e]; simp)).1
    have hxr : ixAt N ((pre.length : Nat) : Int) = some r := by have := ixAt_at pre r suf; rwa [← e] at this
    have hx : ∀ k : Nat, k < 4 → ixAt r ((k : Nat) : Int) = some ((r[k]?).getD (-1)) := by
      intro k hk
      rw [ixAt_nat, List.getElem?_eq_getElem (by omega)]; rfl
    have h2 := hx 2 (by omega); have h3 := hx 3 (by omega); have h0 := hx 0 (by omega); have h4 := hx 1 (by omega)
    have ih := turn_l5 h hL (n := n) (a := a) (b := b) (c := c) (d := d) suf (pre ++ [r]) (by rw [e]; simp)
    rw [ancepsref27_Always.l5_eq, ifB_of _ _ (decide_eq_true (by omega)), hxr, bindD_some]
    rw [show (2 : Int) = ((2 : Nat) : Int) from rfl, h2, bindD_some, show (3 : Int) = ((3 : Nat) : Int) from rfl, h3, bindD_some, show (0 : Int) = ((0 : Nat) : Int) from rfl, h0, bindD_some, show (1 : Int) = ((1 : Nat) : Int) from rfl, h4, bindD_some, grow_ok (by simp [turnN]; omega), bindD_some, show ((1 : Nat) : Int) = (1 : Int) from rfl, w64_succ (by omega)]
    rw [show (((pre ++ [r]).length : Nat) : Int) = ((pre.length + 1 : Nat) : Int) by simp] at ih
    rw [← ih]
    simp [turnN, turnR]

theorem ok_turn (h : ok 4 S N A = true) : ok 4 S (turnN N) A = true := by
  have hv := turn_V (V_of h) rfl
  have hl : (turnN N).length = N.length := by simp [turnN]
  have he : (turnN N).isEmpty = N.isEmpty := by cases N <;> rfl
  unfold ok headOk at h ⊢
  rw [Bool.and_eq_true] at h ⊢
  rw [hl, he]
  refine ⟨h.1, List.all_eq_true.2 fun r hr => ?_⟩
  obtain ⟨h1, h2⟩ := hv.row r hr
  rw [hl] at h2
  unfold rowOk
  rw [Bool.and_eq_true, Bool.not_eq_true', List.any_eq_false, beq_iff_eq]
  refine ⟨h1, fun t ht => ?_⟩
  have := h2 t ht
  unfold badT
  simp only [Bool.or_eq_true, decide_eq_true_eq, not_or]; omega

theorem eq_l4 : ∀ (suf pre : List Int), (pre ++ suf).length < 1000000 → slices_Equal_int_int.l4 (pre ++ suf) (pre ++ suf) ((pre ++ suf).length : Nat) (pre.length : Nat) = some (true, ())
  | [], pre, h => by rw [slices_Equal_int_int.l4_eq, ifB_not _ _ (lt_end pre)]
  | x :: suf, pre, h => by
    have ih := eq_l4 suf (pre ++ [x]) (by rw [← app_at]; exact h)
    rw [slices_Equal_int_int.l4_eq, ifB_of _ _ (lt_at pre x suf), ixAt_at, bindD_some, bindD_some, ifB_not _ _ (by simp), w_at (x := x) (s := suf) (by omega), app_at pre x suf]
    exact ih
theorem eq_f {l : List Int} (h : l.length < 1000000) : slices_Equal_int_int.f l l = some (true, ()) := by
  rw [slices_Equal_int_int.f_eq, ifB_not _ _ (by simp)]
  exact eq_l4 l [] h
theorem none_l2 (v : List Int) (hv : v.length < 1000000) : ∀ (suf pre : List Int), (pre ++ suf).length < 1000000 → (∀ x ∈ suf, x ∉ v) →
    slices_IndexFunc_int_int.l2 (pre ++ suf) v ((pre ++ suf).length : Nat) (pre.length : Nat) = some (-1, ())
  | [], pre, h, _ => by rw [slices_IndexFunc_int_int.l2_eq, ifB_not _ _ (lt_end pre)]
  | x :: suf, pre, h, hx => by
    have ih := none_l2 v hv suf (pre ++ [x]) (by rw [← app_at]; exact h) (fun y hy => hx y (List.mem_cons_of_mem _ hy))
    rw [slices_IndexFunc_int_int.l2_eq, ifB_of _ _ (lt_at pre x suf), ixAt_at, bindD_some, ancepslaw27_CaesuraBridges_1.f_eq, contains_f v x hv, bindD_some, bindD_some, decide_eq_false (hx x List.mem_cons_self), ifB_not _ _ (by rfl), w_at (x := x) (s := suf) (by omega), app_at pre x suf]
    exact ih
theorem none_f {x v : List Int} (hx : x.length < 1000000) (hv : v.length < 1000000) (h : ∀ y ∈ x, y ∉ v) : slices_ContainsFunc_int_int.f x v = some (false, ()) := by
  have := none_l2 v hv x [] (by simpa using hx) h
  simp only [List.nil_append, List.length_nil] at this
  rw [slices_ContainsFunc_int_int.f_eq, slices_IndexFunc_int_int.f_eq]
  rw [show ((0 : Nat) : Int) = 0 from rfl] at this
  rw [this]; rfl
theorem plc_len (t : Nat → Bool) : ∀ (f p : Nat), (plc t f p).length ≤ f
  | 0, _ => by simp [plc]
  | f + 1, p => by
    have := plc_len t f (p + 1)
    unfold plc
    cases t p <;> simp <;> omega
theorem res_len (N : LLI) (A : LB) (n : Nat) : ∀ (f i : Nat) (now : LB) (out : List Int), (res N A n f i now out).length ≤ out.length + f
  | 0, _, _, _ => by simp [res]
  | f + 1, i, now, out => by
    unfold res
    have := res_len N A n f (i + 1) (allU (canRow N A (n - i)) now N (false, List.replicate N.length false)).2 (bif (allU (canRow N A (n - i)) now N (false, List.replicate N.length false)).1 then out ++ [((i : Nat) : Int)] else out)
    cases h : (allU (canRow N A (n - i)) now N (false, List.replicate N.length false)).1 <;> rw [h] at this <;> simp at this ⊢ <;> omega

/-- what all four return -/
theorem four (ho : ok 4 S N A = true) {n : Nat} (hn : n ≤ 60) (hc : trg (canRow N A n) S = true) : ∃ x v : List Int, x.length < 1000000 ∧ v.length < 1000000 ∧ (∀ y ∈ x, y ∉ v) ∧
    caesura_Bridges.f 4 S N A (n : Int) = some (x, ((0 : Int), ())) ∧ ancepsref27_Bridges.f 4 S N A (n : Int) = some (x, ((0 : Int), ())) ∧
    caesura_Always.f 4 S N A (n : Int) = some (v, ((0 : Int), ())) ∧ ancepsref27_Always.f 4 S N A (n : Int) = some (v, ((0 : Int), ())) := by
  classical
  have h := V_of ho
  have h' := turn_V h rfl
  obtain ⟨s0, hS, hs0⟩ := trg_iff.1 hc
  have hlt : s0 < N.length := by have := h.s.2; omega
  have hc' : trg (canRow (turnN N) A n) S = true := trg_iff.2 ⟨s0, hS, (turn_can h rfl).2 hs0⟩
  have hst : S.toNat = s0 := by omega
  have he : endsW 4 S N A (n : Int) = (res N A n n 1 ((List.replicate N.length false).set S.toNat true) [], ((0 : Int), ())) := by
    unfold endsW endsV
    rw [ho, decide_eq_false (by omega), decide_eq_false (by omega), Int.toNat_natCast, hc]; rfl
  have he' : endsW 4 S (turnN N) A (n : Int) = (res (turnN N) A n n 1 ((List.replicate (turnN N).length false).set S.toNat true) [], ((0 : Int), ())) := by
    unfold endsW endsV
    rw [ok_turn ho, decide_eq_false (by omega), decide_eq_false (by omega), Int.toNat_natCast, hc']; rfl
  have hl := res_len N A n n 1 ((List.replicate N.length false).set S.toNat true) []
  have hl' := res_len (turnN N) A n n 1 ((List.replicate (turnN N).length false).set S.toNat true) []
  simp only [List.length_nil] at hl hl'
  have hm := ends_mem h hc
  have hm' := ends_mem h' hc'
  generalize res N A n n 1 ((List.replicate N.length false).set S.toNat true) [] = e1 at he hl hm
  generalize res (turnN N) A n n 1 ((List.replicate (turnN N).length false).set S.toNat true) [] = e2 at he' hl' hm'
  rw [hst] at hm hm'
  have hx := inner_l3 e1 (by omega) hn (n - 1) 1 [] rfl (by simp) (by omega)
  have hx' := others_l3 e1 (by omega) hn (n - 1) 1 [] rfl (by simp) (by omega)
  have hv := always_l3 h hS hlt hn (n - 1) 1 [] rfl (by simp) (by omega) (by omega)
  have hv' := others_l3 e2 (by omega) hn (n - 1) 1 [] rfl (by simp) (by omega)
  rw [show ((1 : Nat) : Int) = 1 from rfl, List.nil_append] at hx hx' hv hv'
  have hsame : plc (fun j => !decide (EndsAt N A s0 n (fun l => l < 2) j)) (n - 1) 1 = plc (fun j => !decide ((j : Int) ∈ e2)) (n - 1) 1 := by
    refine plc_congr _ _ fun j h1 h2 => ?_
    congr 1
    refine decide_eq_decide.2 ?_
    rw [hm']
    constructor
    · intro hh; exact ⟨j, by omega, by omega, rfl, (turn_ends h rfl).2 hh⟩
    · rintro ⟨j', h3, h4, h5, h6⟩
      have : j' = j := by omega
      subst this
      exact (turn_ends h rfl).1 h6
  refine ⟨plc (fun j => !decide ((j : Int) ∈ e1)) (n - 1) 1, plc (fun j => !decide (EndsAt N A s0 n (fun l => l < 2) j)) (n - 1) 1, Nat.lt_of_le_of_lt (plc_len _ _ _) (by omega), Nat.lt_of_le_of_lt (plc_len _ _ _) (by omega), ?_, ?_, ?_, ?_, ?_⟩
  · intro y hy hy2
    obtain ⟨j, h1, h2, rfl, h4⟩ := (plc_mem _ _ _ _).1 hy
    obtain ⟨j', h1', h2', h3', h4'⟩ := (plc_mem _ _ _ _).1 hy2
    have : j' = j := by omega
    subst this
    simp only [Bool.not_eq_true', decide_eq_false_iff_not] at h4 h4'
    rcases some_letter (j := j') (by omega) (by omega) hs0 with h5 | h5
    · exact h4 ((hm _).2 ⟨j', by omega, by omega, rfl, h5⟩)
    · exact h4' h5
  · rw [caesura_Bridges.f_eq, ends_f, he, bindD_some, ifB_not _ _ (by rfl), caesura_inner.f_eq, hx]; rfl
  · rw [ancepsref27_Bridges.f_eq, rends_f, he, bindD_some, ifB_not _ _ (by rfl), ancepsref27_others.f_eq, hx']; rfl
  · rw [caesura_Always.f_eq, ends_f, he, bindD_some, ifB_not _ _ (by rfl), caesura_inner.f1_eq, hv]; rfl
  · have ht := turn_l5 h rfl (n := (n : Int)) (a := 0) (b := 0) (c := 4) (d := S) N [] rfl
    simp only [List.length_nil] at ht
    rw [show ((0 : Nat) : Int) = 0 from rfl, show turnN [] = ([] : LLI) from rfl] at ht
    rw [ancepsref27_Always.f_eq, ref_valid_f, ho, bindD_some, ifB_not _ _ (by rfl), ifB_not _ _ (by rfl), ht, ancepsref27_Always.l5_eq, ifB_not _ _ (decide_eq_false (by omega)), rends_f, he', bindD_some, ifB_not _ _ (by rfl), ancepsref27_others.f_eq, hv', ← hsame]; rfl

/-- the same error -/
theorem errs {n : Int} (h : (endsW L S N A n).2.1 ≠ 0) : ∃ e : Int, caesura_Bridges.f L S N A n = some ([], (e, ())) ∧ ancepsref27_Bridges.f L S N A n = some ([], (e, ())) ∧ caesura_Always.f L S N A n = some ([], (e, ())) ∧ ancepsref27_Always.f L S N A n = some ([], (e, ())) := by
  refine ⟨(endsW L S N A n).2.1, ?_, ?_, ?_, ?_⟩
  · rw [caesura_Bridges.f_eq, ends_f, bindD_some, ifB_of _ _ (bne_iff_ne.2 h)]
  · rw [ancepsref27_Bridges.f_eq, rends_f, bindD_some, ifB_of _ _ (bne_iff_ne.2 h)]
  · rw [caesura_Always.f_eq, ends_f, bindD_some, ifB_of _ _ (bne_iff_ne.2 h)]
  · rw [ancepsref27_Always.f_eq, ref_valid_f, bindD_some]
    cases ho : ok L S N A with
    | false =>
      rw [ifB_of _ _ (by rfl)]
      unfold endsW; rw [ho]; rfl
    | true =>
      rw [ifB_not _ _ (by rfl)]
      by_cases hL : L = 4
      · subst hL
        have hv := V_of ho
        rw [ifB_not _ _ (by rfl)]
        have ht := turn_l5 hv rfl (n := n) (a := 0) (b := 0) (c := 4) (d := S) N [] rfl
        simp only [List.length_nil] at ht
        rw [show ((0 : Nat) : Int) = 0 from rfl, show turnN [] = ([] : LLI) from rfl] at ht
        have hsame : (endsW 4 S (turnN N) A n).2.1 = (endsW 4 S N A n).2.1 := by
          unfold endsW
          rw [ho, ok_turn ho]
          simp only [beq_self_eq_true, Bool.and_self, cond_true]
          cases decide (n < 0) || decide (n > 60) with
          | true => rfl
          | false =>
            simp only [cond_false]
            unfold endsV
            have : trg (canRow (turnN N) A n.toNat) S = trg (canRow N A n.toNat) S := by
              rw [Bool.eq_iff_iff, trg_iff, trg_iff]
              constructor
              · rintro ⟨s, h1, h2⟩; exact ⟨s, h1, (turn_can hv rfl).1 h2⟩
              · rintro ⟨s, h1, h2⟩; exact ⟨s, h1, (turn_can hv rfl).2 h2⟩
            rw [this]
            cases trg (canRow N A n.toNat) S <;> rfl
        rw [ht, ancepsref27_Always.l5_eq, ifB_not _ _ (decide_eq_false (by omega)), rends_f, bindD_some, hsame, ifB_of _ _ (bne_iff_ne.2 h)]
      · rw [ifB_of _ _ (bne_iff_ne.2 hL)]
        unfold endsW
        rw [ho, show (L == 4) = false from beq_eq_false_iff_ne.2 hL]; rfl

theorem bridges_law (L S : Int) (N : LLI) (A : LB) (n : Int) (hN : ∀ r ∈ N, r.length ≤ 140737488351232) : ancepslaw27_CaesuraBridges.f L S N A n = some (true, ()) := by
  obtain ⟨b, hb, _⟩ := few_f L S N A hN
  rw [ancepslaw27_CaesuraBridges.f_eq, awake_f, bindD_some, ifB_not _ _ (by rfl), hb, bindD_some]
  cases b with
  | false => rfl
  | true =>
    rw [ifB_not _ _ (by rfl)]
    by_cases h0 : (endsW L S N A n).2.1 = 0
    · have key : ok L S N A = true ∧ L = 4 ∧ 0 ≤ n ∧ n ≤ 60 ∧ trg (canRow N A n.toNat) S = true := by
        unfold endsW at h0
        cases ho : ok L S N A with
        | false => rw [ho] at h0; cases h0
        | true =>
          rw [ho] at h0
          by_cases hL : L = 4
          · rw [show (L == 4) = true by simp [hL]] at h0
            simp only [Bool.and_self, cond_true] at h0
            by_cases h1 : n < 0
            · rw [decide_eq_true h1] at h0; cases h0
            · by_cases h2 : n > 60
              · rw [decide_eq_false h1, decide_eq_true h2] at h0; cases h0
              · rw [decide_eq_false h1, decide_eq_false h2] at h0
                simp only [Bool.or_self, cond_false] at h0
                unfold endsV at h0
                cases hc : trg (canRow N A n.toNat) S with
                | false => rw [hc] at h0; cases h0
                | true => exact ⟨rfl, hL, by omega, by omega, rfl⟩
          · rw [show (L == 4) = false from beq_eq_false_iff_ne.2 hL] at h0; cases h0
      obtain ⟨ho, rfl, h1, h2, hc⟩ := key
      obtain ⟨m, rfl⟩ : ∃ m : Nat, n = (m : Int) := ⟨n.toNat, by omega⟩
      rw [Int.toNat_natCast] at hc
      obtain ⟨x, v, hx, hv, hxv, g1, g2, g3, g4⟩ := four ho (by omega) hc
      rw [g1, g2, g3, g4]
      simp only [bindD_some]
      rw [ifB_not _ _ (by rfl), eq_f hx]
      simp only [bindD_some]
      rw [ifB_not _ _ (by rfl), ifB_not _ _ (by rfl), eq_f hv]
      simp only [bindD_some]
      rw [ifB_not _ _ (by rfl), none_f hx hv hxv]
      rfl
    · obtain ⟨e, g1, g2, g3, g4⟩ := errs h0
      rw [g1, g2, g3, g4]
      simp only [bindD_some]
      rw [ifB_not _ _ (by simp), eq_f (by simp)]
      simp only [bindD_some]
      rw [ifB_not _ _ (by rfl), ifB_not _ _ (by simp)]
      rw [ifB_not _ _ (by rfl), none_f (by simp) (by simp) (by simp)]
      rfl
end
end Go.Proofs.K27
