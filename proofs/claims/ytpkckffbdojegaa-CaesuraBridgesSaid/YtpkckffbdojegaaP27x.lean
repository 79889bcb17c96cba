/- Plain words for the chapter of breaks, Bridges: where words can end, told by ways through the automaton. -/
import Derived.Test.YtpkckffbdojegaaP27w
set_option linter.unusedVariables false
set_option linter.unusedSimpArgs false
namespace Go.Proofs.K27
open Go Go.Proofs.R
set_option linter.unusedVariables false
set_option linter.unusedSimpArgs false
set_option linter.unusedSectionVars false
set_option maxRecDepth 100000

def edge (N : LLI) (s l t : Nat) : Prop := ∃ r, N[s]? = some r ∧ r[l]? = some (t : Int)
def Can (N : LLI) (A : LB) (k s : Nat) : Prop := (canRow N A k)[s]? = some true
/-- the states to which ways lead, letters restricted -/
def Rch (N : LLI) (s0 : Nat) (Q : Nat → Nat → Prop) : Nat → Nat → Prop
  | 0, t => t = s0
  | i + 1, t => ∃ s l, Rch N s0 Q i s ∧ edge N s l t ∧ Q i l

theorem trg_iff {C : LB} {t : Int} : trg C t = true ↔ ∃ n : Nat, t = n ∧ C[n]? = some true := by
  unfold trg
  by_cases h : t ≥ 0
  · rw [decide_eq_true h, cond_true]
    constructor
    · intro hh
      refine ⟨t.toNat, by omega, ?_⟩
      cases hc : C[t.toNat]? with
      | none => rw [hc] at hh; cases hh
      | some b => rw [hc] at hh; simp at hh; rw [hh]
    · rintro ⟨n, rfl, hn⟩
      rw [Int.toNat_natCast, hn]; rfl
  · rw [decide_eq_false h]
    constructor
    · intro hh; cases hh
    · rintro ⟨n, rfl, _⟩; omega
theorem can_succ {N : LLI} {A : LB} {k s : Nat} : Can N A (k + 1) s ↔ ∃ l t, edge N s l t ∧ Can N A k t := by
  unfold Can edge
  simp only [canRow, List.getElem?_map, Option.map_eq_some_iff]
  constructor
  · rintro ⟨r, hr, ha⟩
    obtain ⟨t, ht, hc⟩ := List.any_eq_true.1 ha
    obtain ⟨n, rfl, hn⟩ := trg_iff.1 hc
    obtain ⟨l, hl⟩ := List.mem_iff_getElem?.1 ht
    exact ⟨l, n, ⟨r, hr, hl⟩, hn⟩
  · rintro ⟨l, t, ⟨r, hr, hl⟩, hc⟩
    exact ⟨r, hr, List.any_eq_true.2 ⟨_, List.mem_of_getElem? hl, trg_iff.2 ⟨t, rfl, hc⟩⟩⟩

theorem upd1_at {C : LB} {l : Nat} {t : Int} {p : Bool × LB} {x : Nat} : (upd1 C l t p).2[x]? = some true ↔ p.2[x]? = some true ∨ (t = (x : Int) ∧ C[x]? = some true ∧ x < p.2.length) := by
  unfold upd1
  cases hc : trg C t with
  | true =>
    obtain ⟨n, rfl, hn⟩ := trg_iff.1 hc
    simp only [cond_true, Int.toNat_natCast]
    rw [List.getElem?_set]
    by_cases h : n = x
    · subst h
      by_cases hl : n < p.2.length
      · simp [hl, hn]
      · simp [hl]
    · rw [if_neg h]
      constructor
      · exact .inl
      · rintro (h1 | ⟨h1, _⟩)
        · exact h1
        · omega
  | false =>
    simp only [cond_false]
    constructor
    · exact .inl
    · rintro (h1 | ⟨h1, h2, _⟩)
      · exact h1
      · rw [trg_iff.2 ⟨x, h1, h2⟩] at hc; cases hc
theorem upd1_fst {C : LB} {l : Nat} {t : Int} {p : Bool × LB} : (upd1 C l t p).1 = true ↔ p.1 = true ∨ ((∃ n : Nat, t = n ∧ C[n]? = some true) ∧ 2 ≤ l) := by
  unfold upd1
  rw [← trg_iff]
  cases trg C t <;> simp
theorem rowU_at {C : LB} {x : Nat} : ∀ (r : List Int) (l : Nat) (p : Bool × LB), (rowU C r l p).2[x]? = some true ↔ p.2[x]? = some true ∨ ((∃ j : Nat, r[j]? = some (x : Int)) ∧ C[x]? = some true ∧ x < p.2.length)
  | [], l, p => by simp [rowU]
  | t :: r, l, p => by
    rw [rowU, rowU_at r (l + 1), upd1_at, upd1_len]
    constructor
    · rintro ((h | ⟨h, h2⟩) | ⟨⟨j, hj⟩, h2⟩)
      · exact .inl h
      · exact .inr ⟨⟨0, by simpa using h⟩, h2⟩
      · exact .inr ⟨⟨j + 1, by simpa using hj⟩, h2⟩
    · rintro (h | ⟨⟨j, hj⟩, h2⟩)
      · exact .inl (.inl h)
      · cases j with
        | zero => exact .inl (.inr ⟨by simpa using hj, h2⟩)
        | succ j => exact .inr ⟨⟨j, by simpa using hj⟩, h2⟩
theorem rowU_fst {C : LB} : ∀ (r : List Int) (l : Nat) (p : Bool × LB), (rowU C r l p).1 = true ↔ p.1 = true ∨ ∃ (j n : Nat), r[j]? = some (n : Int) ∧ C[n]? = some true ∧ 2 ≤ l + j
  | [], l, p => by simp [rowU]
  | t :: r, l, p => by
    rw [rowU, rowU_fst r (l + 1), upd1_fst]
    constructor
    · rintro ((h | ⟨⟨n, h, h2⟩, h3⟩) | ⟨j, n, hj, h2, h3⟩)
      · exact .inl h
      · exact .inr ⟨0, n, by simpa using h, h2, h3⟩
      · exact .inr ⟨j + 1, n, by simpa using hj, h2, by omega⟩
    · rintro (h | ⟨j, n, hj, h2, h3⟩)
      · exact .inl (.inl h)
      · cases j with
        | zero => exact .inl (.inr ⟨⟨n, by simpa using hj, h2⟩, h3⟩)
        | succ j => exact .inr ⟨j, n, by simpa using hj, h2, by omega⟩
theorem allU_at {C : LB} {x : Nat} : ∀ (bs : LB) (rs : LLI) (p : Bool × LB), (allU C bs rs p).2[x]? = some true ↔ p.2[x]? = some true ∨ ((∃ s l, bs[s]? = some true ∧ edge rs s l x) ∧ C[x]? = some true ∧ x < p.2.length)
  | [], rs, p => by simp [allU]
  | _ :: _, [], p => by simp [allU, edge]
  | b :: bs, r :: rs, p => by
    rw [allU, allU_at bs rs]
    have hlen : (bif b then rowU C r 0 p else p).2.length = p.2.length := by cases b <;> simp [rowU_len]
    have hat : (bif b then rowU C r 0 p else p).2[x]? = some true ↔ p.2[x]? = some true ∨ (b = true ∧ (∃ j : Nat, r[j]? = some (x : Int)) ∧ C[x]? = some true ∧ x < p.2.length) := by
      cases b with
      | true => simp only [cond_true]; rw [rowU_at]; simp
      | false => simp
    rw [hlen, hat]
    unfold edge
    constructor
    · rintro ((h | ⟨hb, ⟨j, hj⟩, h2⟩) | ⟨⟨s, l, hs, r', hr', hl⟩, h2⟩)
      · exact .inl h
      · exact .inr ⟨⟨0, j, by simp [hb], r, rfl, hj⟩, h2⟩
      · exact .inr ⟨⟨s + 1, l, by simpa using hs, r', by simpa using hr', hl⟩, h2⟩
    · rintro (h | ⟨⟨s, l, hs, r', hr', hl⟩, h2⟩)
      · exact .inl (.inl h)
      · cases s with
        | zero =>
          simp at hs hr'
          subst hr'
          exact .inl (.inr ⟨hs, ⟨l, hl⟩, h2⟩)
        | succ s => exact .inr ⟨⟨s, l, by simpa using hs, r', by simpa using hr', hl⟩, h2⟩
theorem allU_fst {C : LB} : ∀ (bs : LB) (rs : LLI) (p : Bool × LB), (allU C bs rs p).1 = true ↔ p.1 = true ∨ ∃ s l t, bs[s]? = some true ∧ edge rs s l t ∧ C[t]? = some true ∧ 2 ≤ l
  | [], rs, p => by simp [allU]
  | _ :: _, [], p => by simp [allU, edge]
  | b :: bs, r :: rs, p => by
    rw [allU, allU_fst bs rs]
    have hat : (bif b then rowU C r 0 p else p).1 = true ↔ p.1 = true ∨ (b = true ∧ ∃ (j n : Nat), r[j]? = some (n : Int) ∧ C[n]? = some true ∧ 2 ≤ j) := by
      cases b with
      | true => simp only [cond_true]; rw [rowU_fst]; simp
      | false => simp
    rw [hat]
    unfold edge
    constructor
    · rintro ((h | ⟨hb, j, n, hj, h2⟩) | ⟨s, l, t, hs, ⟨r', hr', hl⟩, h2⟩)
      · exact .inl h
      · exact .inr ⟨0, j, n, by simp [hb], ⟨r, rfl, hj⟩, h2⟩
      · exact .inr ⟨s + 1, l, t, by simpa using hs, ⟨r', by simpa using hr', hl⟩, h2⟩
    · rintro (h | ⟨s, l, t, hs, ⟨r', hr', hl⟩, h2⟩)
      · exact .inl (.inl h)
      · cases s with
        | zero =>
          simp at hs hr'
          subst hr'
          exact .inl (.inr ⟨hs, l, t, hl, h2⟩)
        | succ s => exact .inr ⟨s, l, t, by simpa using hs, ⟨r', by simpa using hr', hl⟩, h2⟩

def All (_ _ : Nat) : Prop := True
/-- a way of all letters, with a letter of a kind at a place -/
def EndsAt (N : LLI) (A : LB) (s0 n : Nat) (P : Nat → Prop) (j : Nat) : Prop := ∃ s l t, Rch N s0 All (j - 1) s ∧ edge N s l t ∧ Can N A (n - j) t ∧ P l
def NowOk (N : LLI) (A : LB) (s0 n i : Nat) (now : LB) : Prop := now.length = N.length ∧ ∀ t, now[t]? = some true ↔ Rch N s0 All i t ∧ Can N A (n - i) t

section
variable {L S : Int} {N : LLI} {A : LB}
theorem edge_lt (h : V L S N A) {s l t : Nat} (he : edge N s l t) : s < N.length ∧ t < N.length ∧ (l : Int) < L := by
  obtain ⟨r, hr, hl⟩ := he
  obtain ⟨h1, h2⟩ := h.row r (List.mem_of_getElem? hr)
  have := h2 _ (List.mem_of_getElem? hl)
  have h3 := (List.getElem?_eq_some_iff.1 hl).1
  exact ⟨(List.getElem?_eq_some_iff.1 hr).1, by omega, by omega⟩
theorem rch_lt (h : V L S N A) {s0 : Nat} (hs0 : s0 < N.length) {Q : Nat → Nat → Prop} : ∀ {i t : Nat}, Rch N s0 Q i t → t < N.length
  | 0, t, ht => by simp only [Rch] at ht; omega
  | i + 1, t, ⟨s, l, _, he, _⟩ => (edge_lt h he).2.1
theorem now_step (h : V L S N A) {s0 n i : Nat} (hi : i < n) {now : LB} (hn : NowOk N A s0 n i now) :
    NowOk N A s0 n (i + 1) (allU (canRow N A (n - (i + 1))) now N (false, List.replicate N.length false)).2 ∧
      ((allU (canRow N A (n - (i + 1))) now N (false, List.replicate N.length false)).1 = true ↔ EndsAt N A s0 n (fun l => 2 ≤ l) (i + 1)) := by
  have hsucc : n - i = n - (i + 1) + 1 := by omega
  refine ⟨⟨by rw [allU_len]; simp, fun t => ?_⟩, ?_⟩
  · rw [allU_at]
    constructor
    · rintro (h1 | ⟨⟨s, l, hs, he⟩, hc, _⟩)
      · exfalso
        simp only at h1
        have := List.mem_of_getElem? h1
        simp at this
      · exact ⟨⟨s, l, ((hn.2 s).1 hs).1, he, trivial⟩, hc⟩
    · rintro ⟨⟨s, l, hr, he, _⟩, hc⟩
      refine .inr ⟨⟨s, l, (hn.2 s).2 ⟨hr, ?_⟩, he⟩, hc, by simpa using (edge_lt h he).2.1⟩
      rw [hsucc]; exact can_succ.2 ⟨l, t, he, hc⟩
  · rw [allU_fst]
    constructor
    · rintro (h1 | ⟨s, l, t, hs, he, hc, h2⟩)
      · cases h1
      · exact ⟨s, l, t, ((hn.2 s).1 hs).1, he, hc, h2⟩
    · rintro ⟨s, l, t, hr, he, hc, h2⟩
      refine .inr ⟨s, l, t, (hn.2 s).2 ⟨hr, ?_⟩, he, hc, h2⟩
      rw [hsucc]; exact can_succ.2 ⟨l, t, he, hc⟩
theorem res_mem (h : V L S N A) {s0 n : Nat} : ∀ (f i : Nat) (now : LB) (out : List Int), i + f = n → NowOk N A s0 n i now → ∀ x, x ∈ res N A n f (i + 1) now out ↔ x ∈ out ∨ ∃ j : Nat, i < j ∧ j ≤ n ∧ x = (j : Int) ∧ EndsAt N A s0 n (fun l => 2 ≤ l) j
  | 0, i, now, out, e, hn, x => by
    unfold res
    constructor
    · exact .inl
    · rintro (h1 | ⟨j, h1, h2, _⟩)
      · exact h1
      · omega
  | f + 1, i, now, out, e, hn, x => by
    obtain ⟨h1, h2⟩ := now_step h (by omega) hn
    unfold res
    rw [res_mem h f (i + 1) _ _ (by omega) h1]
    have key : x ∈ (bif (allU (canRow N A (n - (i + 1))) now N (false, List.replicate N.length false)).1 then out ++ [((i + 1 : Nat) : Int)] else out) ↔ x ∈ out ∨ (x = ((i + 1 : Nat) : Int) ∧ EndsAt N A s0 n (fun l => 2 ≤ l) (i + 1)) := by
      rw [← h2]
      cases (allU (canRow N A (n - (i + 1))) now N (false, List.replicate N.length false)).1 <;> simp
    rw [key]
    constructor
    · rintro ((h3 | ⟨h3, h4⟩) | ⟨j, h3, h4, h5⟩)
      · exact .inl h3
      · exact .inr ⟨i + 1, by omega, by omega, h3, h4⟩
      · exact .inr ⟨j, by omega, h4, h5⟩
    · rintro (h3 | ⟨j, h3, h4, h5, h6⟩)
      · exact .inl (.inl h3)
      · by_cases e1 : j = i + 1
        · subst e1; exact .inl (.inr ⟨h5, h6⟩)
        · exact .inr ⟨j, by omega, h4, h5, h6⟩
/-- the places that both find -/
theorem ends_mem (h : V L S N A) {n : Nat} (hc : trg (canRow N A n) S = true) (x : Int) :
    x ∈ res N A n n 1 ((List.replicate N.length false).set S.toNat true) [] ↔ ∃ j : Nat, 0 < j ∧ j ≤ n ∧ x = (j : Int) ∧ EndsAt N A S.toNat n (fun l => 2 ≤ l) j := by
  obtain ⟨s0, hS, hs0⟩ := trg_iff.1 hc
  have hlt : s0 < N.length := by have := h.s.2; omega
  have h0 : NowOk N A s0 n 0 ((List.replicate N.length false).set s0 true) := by
    refine ⟨by simp, fun t => ?_⟩
    rw [List.getElem?_set]
    by_cases e : s0 = t
    · subst e
      simp only [Rch, Can, Nat.sub_zero, true_and]
      rw [if_pos trivial, if_pos (by simpa using hlt)]
      exact ⟨fun _ => hs0, fun _ => rfl⟩
    · rw [if_neg e]
      constructor
      · intro hh
        have := List.mem_of_getElem? hh
        simp at this
      · rintro ⟨h1, _⟩
        simp only [Rch] at h1; omega
  rw [show S.toNat = s0 by omega]
  have := res_mem h n 0 _ [] (by omega) h0 x
  rw [this]; simp
/-- a way of all letters has a letter at each place -/
theorem ways_at {s0 n : Nat} : ∀ {i : Nat}, i ≤ n → Can N A n s0 → ∃ t, Rch N s0 All i t ∧ Can N A (n - i) t
  | 0, _, h => ⟨s0, rfl, h⟩
  | i + 1, hi, h => by
    obtain ⟨s, h1, h2⟩ := ways_at (i := i) (by omega) h
    rw [show n - i = n - (i + 1) + 1 by omega] at h2
    obtain ⟨l, t, he, hc⟩ := can_succ.1 h2
    exact ⟨t, ⟨s, l, h1, he, trivial⟩, hc⟩
theorem some_letter {s0 n j : Nat} (h0 : 0 < j) (hj : j ≤ n) (h : Can N A n s0) : EndsAt N A s0 n (fun l => 2 ≤ l) j ∨ EndsAt N A s0 n (fun l => l < 2) j := by
  obtain ⟨s, h1, h2⟩ := ways_at (i := j - 1) (by omega) h
  rw [show n - (j - 1) = n - j + 1 by omega] at h2
  obtain ⟨l, t, he, hc⟩ := can_succ.1 h2
  by_cases hl : 2 ≤ l
  · exact .inl ⟨s, l, t, h1, he, hc, hl⟩
  · exact .inr ⟨s, l, t, h1, he, hc, by show l < 2; omega⟩

/-! ### ways with a restriction at one place -/
/-- to go on with a restriction -/
def CanQ (N : LLI) (A : LB) (Q : Nat → Nat → Prop) (n : Nat) : Nat → Nat → Prop
  | 0, s => A[s]? = some true
  | k + 1, s => ∃ l t, edge N s l t ∧ Q (n - (k + 1)) l ∧ CanQ N A Q n k t
theorem rch_canQ {s0 n : Nat} {Q : Nat → Nat → Prop} : ∀ {k i : Nat}, i + k = n → ((∃ s, Rch N s0 Q n s ∧ A[s]? = some true) ↔ ∃ s, Rch N s0 Q i s ∧ CanQ N A Q n k s)
  | 0, i, e => by rw [show i = n by omega]; rfl
  | k + 1, i, e => by
    rw [rch_canQ (k := k) (i := i + 1) (by omega)]
    constructor
    · rintro ⟨t, ⟨s, l, hr, he, hq⟩, hc⟩
      exact ⟨s, hr, l, t, he, by rw [show n - (k + 1) = i by omega]; exact hq, hc⟩
    · rintro ⟨s, hr, l, t, he, hq, hc⟩
      exact ⟨t, ⟨s, l, hr, he, by rw [show n - (k + 1) = i by omega] at hq; exact hq⟩, hc⟩
/-- all letters but one place -/
def Qp (j : Nat) (i l : Nat) : Prop := i ≠ j - 1 ∨ l < 2
theorem canQ_all {j n : Nat} (h0 : 0 < j) : ∀ {k s : Nat}, k ≤ n - j → j ≤ n → (CanQ N A (Qp j) n k s ↔ Can N A k s)
  | 0, s, _, _ => by unfold CanQ Can canRow; rfl
  | k + 1, s, hk, hj => by
    rw [can_succ]
    unfold CanQ
    constructor
    · rintro ⟨l, t, he, _, hc⟩; exact ⟨l, t, he, (canQ_all h0 (by omega) hj).1 hc⟩
    · rintro ⟨l, t, he, hc⟩; exact ⟨l, t, he, .inl (by omega), (canQ_all h0 (by omega) hj).2 hc⟩
theorem rch_all {s0 j : Nat} (h0 : 0 < j) : ∀ {i s : Nat}, i ≤ j - 1 → (Rch N s0 (Qp j) i s ↔ Rch N s0 All i s)
  | 0, s, _ => Iff.rfl
  | i + 1, s, hi => by
    unfold Rch
    constructor
    · rintro ⟨u, l, hr, he, _⟩; exact ⟨u, l, (rch_all h0 (by omega)).1 hr, he, trivial⟩
    · rintro ⟨u, l, hr, he, _⟩; exact ⟨u, l, (rch_all h0 (by omega)).2 hr, he, .inl (by omega)⟩
theorem without_iff {s0 n j : Nat} (h0 : 0 < j) (hj : j ≤ n) : (∃ s, Rch N s0 (Qp j) n s ∧ A[s]? = some true) ↔ EndsAt N A s0 n (fun l => l < 2) j := by
  rw [rch_canQ (k := n - (j - 1)) (i := j - 1) (by omega), show n - (j - 1) = (n - j) + 1 by omega]
  unfold EndsAt CanQ
  constructor
  · rintro ⟨s, hr, l, t, he, hq, hc⟩
    refine ⟨s, l, t, (rch_all h0 (Nat.le_refl _)).1 hr, he, (canQ_all h0 (Nat.le_refl _) hj).1 hc, ?_⟩
    rcases hq with hq | hq
    · omega
    · exact hq
  · rintro ⟨s, l, t, hr, he, hc, hl⟩
    exact ⟨s, (rch_all h0 (Nat.le_refl _)).2 hr, l, t, he, .inr hl, (canQ_all h0 (Nat.le_refl _) hj).2 hc⟩

/-! ### the automaton in which a word ends exactly where none did -/
def turnR (r : List Int) : List Int := [(r[2]?).getD (-1), (r[3]?).getD (-1), (r[0]?).getD (-1), (r[1]?).getD (-1)]
def turnN (N : LLI) : LLI := N.map turnR
def turnl (l : Nat) : Nat := if l < 2 then l + 2 else l - 2
theorem turn_at {r : List Int} (hr : r.length = 4) (l : Nat) : (turnR r)[l]? = if l < 4 then r[turnl l]? else none := by
  unfold turnR turnl
  match r, hr with
  | [a, b, c, d], _ =>
    match l with
    | 0 => rfl
    | 1 => rfl
    | 2 => rfl
    | 3 => rfl
    | l + 4 => rw [if_neg (by omega)]; rfl
theorem turn_edge (h : V L S N A) (hL : L = 4) {s l t : Nat} : edge (turnN N) s l t ↔ l < 4 ∧ edge N s (turnl l) t := by
  unfold edge turnN
  simp only [List.getElem?_map, Option.map_eq_some_iff]
  constructor
  · rintro ⟨_, ⟨r, hr, rfl⟩, hl⟩
    have h4 := (h.row r (List.mem_of_getElem? hr)).1
    rw [turn_at (by omega)] at hl
    split at hl
    · rename_i hlt; exact ⟨hlt, r, hr, hl⟩
    · cases hl
  · rintro ⟨hlt, r, hr, hl⟩
    have h4 := (h.row r (List.mem_of_getElem? hr)).1
    exact ⟨_, ⟨r, hr, rfl⟩, by rw [turn_at (by omega), if_pos hlt]; exact hl⟩
theorem turn_back (h : V L S N A) (hL : L = 4) {s l t : Nat} (he : edge N s l t) : edge (turnN N) s (turnl l) t := by
  have hl := (edge_lt h he).2.2
  rw [turn_edge h hL]
  have : turnl (turnl l) = l := by unfold turnl; split <;> split <;> omega
  rw [this]
  exact ⟨by unfold turnl; split <;> omega, he⟩
theorem turn_can (h : V L S N A) (hL : L = 4) : ∀ {k s : Nat}, Can (turnN N) A k s ↔ Can N A k s
  | 0, s => by unfold Can canRow; rfl
  | k + 1, s => by
    rw [can_succ, can_succ]
    constructor
    · rintro ⟨l, t, he, hc⟩; exact ⟨turnl l, t, ((turn_edge h hL).1 he).2, (turn_can h hL).1 hc⟩
    · rintro ⟨l, t, he, hc⟩; exact ⟨turnl l, t, turn_back h hL he, (turn_can h hL).2 hc⟩
theorem turn_rch (h : V L S N A) (hL : L = 4) {s0 : Nat} : ∀ {i s : Nat}, Rch (turnN N) s0 All i s ↔ Rch N s0 All i s
  | 0, s => Iff.rfl
  | i + 1, s => by
    unfold Rch
    constructor
    · rintro ⟨u, l, hr, he, _⟩; exact ⟨u, turnl l, (turn_rch h hL).1 hr, ((turn_edge h hL).1 he).2, trivial⟩
    · rintro ⟨u, l, hr, he, _⟩; exact ⟨u, turnl l, (turn_rch h hL).2 hr, turn_back h hL he, trivial⟩
theorem turn_ends (h : V L S N A) (hL : L = 4) {s0 n j : Nat} : EndsAt (turnN N) A s0 n (fun l => 2 ≤ l) j ↔ EndsAt N A s0 n (fun l => l < 2) j := by
  unfold EndsAt
  constructor
  · rintro ⟨s, l, t, hr, he, hc, hl⟩
    obtain ⟨h4, he2⟩ := (turn_edge h hL).1 he
    refine ⟨s, turnl l, t, (turn_rch h hL).1 hr, he2, (turn_can h hL).1 hc, ?_⟩
    show turnl l < 2
    have hl : 2 ≤ l := hl
    unfold turnl; split <;> omega
  · rintro ⟨s, l, t, hr, he, hc, hl⟩
    refine ⟨s, turnl l, t, (turn_rch h hL).2 hr, turn_back h hL he, (turn_can h hL).2 hc, ?_⟩
    show 2 ≤ turnl l
    have hl : l < 2 := hl
    unfold turnl; split <;> omega
theorem turn_V (h : V L S N A) (hL : L = 4) : V L S (turnN N) A := by
  refine ⟨h.l1, h.l8, by simpa [turnN] using h.n, by rw [h.a]; simp [turnN], by simpa [turnN] using h.s, ?_⟩
  intro r hr
  obtain ⟨r0, hr0, rfl⟩ := List.mem_map.1 hr
  obtain ⟨h1, h2⟩ := h.row r0 hr0
  have hN : (turnN N).length = N.length := by simp [turnN]
  refine ⟨by rw [hL]; rfl, fun t ht => ?_⟩
  rw [hN]
  obtain ⟨l, hl⟩ := List.mem_iff_getElem?.1 ht
  rw [turn_at (by omega)] at hl
  split at hl
  · exact h2 t (List.mem_of_getElem? hl)
  · cases hl
end
end Go.Proofs.K27
