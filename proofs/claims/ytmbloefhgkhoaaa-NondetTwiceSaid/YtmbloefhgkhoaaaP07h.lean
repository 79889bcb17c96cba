/- Automata with choices: the automaton of a deterministic one, and the law of Of. -/
import Derived.Test.YtmbloefhgkhoaaaP07g
set_option linter.unusedVariables false
set_option linter.unusedSimpArgs false
namespace Go.Proofs.C07
open Go Go.Proofs.R
open M (lt_at lt_end w_at app_at LLI)
set_option linter.unusedVariables false
set_option linter.unusedSimpArgs false
set_option maxRecDepth 100000

/-! the edges of a deterministic automaton -/
def rowE (s : Int) : Nat → List Int → List Ed
  | _, [] => []
  | c, t :: r => (if t ≥ 0 then [(s, ((c : Int), t))] else []) ++ rowE s (c + 1) r
def allE : Nat → LLI → List Ed
  | _, [] => []
  | s, r :: N => rowE (s : Int) 0 r ++ allE (s + 1) N
theorem rowE_len (s : Int) : ∀ (r : List Int) (c : Nat), (rowE s c r).length ≤ r.length
  | [], _ => Nat.le_refl _
  | t :: r, c => by
    have := rowE_len s r (c + 1)
    unfold rowE; rw [List.length_append, List.length_cons]
    split <;> simp <;> omega
theorem mem_rowE {s : Int} {x : Ed} : ∀ {r : List Int} {c : Nat}, x ∈ rowE s c r ↔ ∃ k t, r[k]? = some t ∧ 0 ≤ t ∧ x = (s, (((c + k : Nat) : Int), t))
  | [], c => by simp [rowE]
  | t :: r, c => by
    unfold rowE
    rw [List.mem_append, mem_rowE (r := r) (c := c + 1)]
    constructor
    · rintro (h | ⟨k, t', h1, h2, h3⟩)
      · split at h
        · rename_i h0; rw [List.mem_singleton] at h; exact ⟨0, t, rfl, h0, h⟩
        · cases h
      · exact ⟨k + 1, t', by simpa using h1, h2, by rw [h3]; congr 3; omega⟩
    · rintro ⟨k, t', h1, h2, h3⟩
      cases k with
      | zero =>
        left; simp at h1; subst h1; rw [if_pos h2]; simpa using h3
      | succ k => right; exact ⟨k, t', by simpa using h1, h2, by rw [h3]; congr 3; omega⟩
theorem mem_allE {x : Ed} : ∀ {N : LLI} {s : Nat}, x ∈ allE s N ↔ ∃ (j k : Nat) (r : List Int) (t : Int), N[j]? = some r ∧ r[k]? = some t ∧ 0 ≤ t ∧ x = (((s + j : Nat) : Int), ((k : Int), t))
  | [], s => by simp [allE]
  | r :: N, s => by
    unfold allE
    rw [List.mem_append, mem_rowE, mem_allE (N := N) (s := s + 1)]
    constructor
    · rintro (⟨k, t, h1, h2, h3⟩ | ⟨j, k, r', t, h1, h2, h3, h4⟩)
      · exact ⟨0, k, r, t, rfl, h1, h2, by rw [h3]; simp⟩
      · exact ⟨j + 1, k, r', t, by simpa using h1, h2, h3, by rw [h4]; congr 2; omega⟩
    · rintro ⟨j, k, r', t, h1, h2, h3, h4⟩
      cases j with
      | zero => left; simp at h1; subst h1; exact ⟨k, t, h2, h3, by rw [h4]; simp⟩
      | succ j => right; exact ⟨j, k, r', t, by simpa using h1, h2, h3, by rw [h4]; congr 2; omega⟩
theorem allE_len {m : Nat} : ∀ (N : LLI) (s : Nat), (∀ r ∈ N, r.length ≤ m) → (allE s N).length ≤ m * N.length
  | [], _, _ => by simp [allE]
  | r :: N, s, h => by
    have h1 := allE_len N (s + 1) (fun r hr => h r (List.mem_cons_of_mem _ hr))
    have h2 := rowE_len (s : Int) r 0
    have h3 := h r List.mem_cons_self
    unfold allE; rw [List.length_append, List.length_cons, Nat.mul_add]; omega

section
variable {L S : Int} {N : LLI} {A : LB}
/-! the loops -/
theorem of_l11 (a0 a1 a2 a3 : Int) (N' : LLI) (L' S' : Int) (N2 : LLI) (A' : LB) (b0 b1 b2 b3 : Int) (c0 : List Int) (c1 : List Ed) (c2 St : List Int) (Ac : List Int) (s : Nat) (n : Int) {a : Bool} (ha : A'[s]? = some a) :
    ∀ (suf pre : List Int) (E : List Ed), (pre ++ suf).length ≤ 8 → E.length + suf.length ≤ 4000000 → Ac.length ≤ 4000 →
    nondet_Of.l11 (s : Int) N' n (s : Int) (pre ++ suf) ((pre ++ suf).length : Nat) (pre.length : Nat) L' S' N2 A' b0 b1 b2 b3 c0 c1 c2 St E Ac =
      nondet_Of.l8 N' n (IntKind.i64.wrap ((s : Int) + 1)) L' S' N2 A' b0 b1 b2 b3 c0 c1 c2 St (E ++ rowE (s : Int) pre.length suf) (bif a then Ac ++ [(s : Int)] else Ac)
  | [], pre, E, h, hE, hA => by
    rw [nondet_Of.l11_eq, ifB_not _ _ (lt_end pre), ixAt_nat, ha, bindD_some]
    cases a
    · simp only [ifB_false, cond_false, rowE, List.append_nil]
    · rw [ifB_true, grow_one _ (by omega), bindD_some]; simp only [cond_true, rowE, List.append_nil]
  | t :: suf, pre, E, h, hE, hA => by
    have hl : pre.length < 8 := by simp only [List.length_append, List.length_cons] at h; omega
    have hr : rowE (s : Int) pre.length (t :: suf) = (if t ≥ 0 then [((s : Int), ((pre.length : Int), t))] else []) ++ rowE (s : Int) (pre ++ [t]).length suf := by
      rw [List.length_append]; rfl
    rw [nondet_Of.l11_eq, ifB_of _ _ (lt_at pre t suf), ixAt_at, bindD_some, hr]
    by_cases h0 : t ≥ 0
    · have ih := of_l11 a0 a1 a2 a3 N' L' S' N2 A' b0 b1 b2 b3 c0 c1 c2 St Ac s n ha suf (pre ++ [t]) (E ++ [((s : Int), ((pre.length : Int), t))]) (by rw [← app_at]; exact h) (by simp only [List.length_append, List.length_cons, List.length_nil] at hE ⊢; omega) hA
      rw [ifB_of _ _ (decide_eq_true h0), grow_one _ (by simp only [List.length_cons] at hE; omega), bindD_some, w_pre pre t (by omega), if_pos h0, app_at pre t suf, ih, List.append_assoc]
    · have ih := of_l11 a0 a1 a2 a3 N' L' S' N2 A' b0 b1 b2 b3 c0 c1 c2 St Ac s n ha suf (pre ++ [t]) E (by rw [← app_at]; exact h) (by simp only [List.length_cons] at hE ⊢; omega) hA
      rw [ifB_not _ _ (decide_eq_false h0), w_pre pre t (by omega), if_neg h0, app_at pre t suf, List.nil_append, ih]
theorem of_l8 (L' S' : Int) (N2 : LLI) (A' : LB) (b0 b1 : Int) (n : Int) (c0 : List Int) (c1 : List Ed) (c2 St : List Int) : ∀ (suf pre : LLI) (E : List Ed) (Ac : List Int), (∀ r ∈ suf, r.length ≤ 8) → (pre ++ suf).length = A'.length → A'.length ≤ 400 →
    E.length ≤ 8 * pre.length → Ac.length ≤ pre.length →
    nondet_Of.l8 (pre ++ suf) ((pre ++ suf).length : Nat) (pre.length : Nat) L' S' N2 A' b0 b1 L n c0 c1 c2 St E Ac =
      some (L, (n, (St, (E ++ allE pre.length suf, (Ac ++ memL (A'.drop pre.length) pre.length, (0, ()))))))
  | [], pre, E, Ac, h, hn, h4, hE, hA => by
    rw [nondet_Of.l8_eq, ifB_not _ _ (lt_end pre)]
    simp only [List.append_nil] at hn
    rw [hn, List.drop_length]; simp [allE, memL]
  | r :: suf, pre, E, Ac, h, hn, h4, hE, hA => by
    have hl : pre.length < A'.length := by rw [← hn]; simp
    have hr := h r List.mem_cons_self
    have ha : A'[pre.length]? = some A'[pre.length] := List.getElem?_eq_getElem hl
    have hre := rowE_len (pre.length : Int) r 0
    rw [nondet_Of.l8_eq, ifB_of _ _ (lt_at pre r suf), ixAt_at, bindD_some]
    have hq := of_l11 (L' := L') 0 0 0 0 (pre ++ r :: suf) S' N2 A' b0 b1 L n c0 c1 c2 St Ac pre.length (((pre ++ r :: suf).length : Nat) : Int) ha r [] E (by simpa using hr) (by omega) (by omega)
    rw [List.nil_append, List.length_nil, Int.ofNat_zero] at hq
    rw [hq, w_pre pre r (by omega)]
    have ih := of_l8 L' S' N2 A' b0 b1 n c0 c1 c2 St suf (pre ++ [r]) (E ++ rowE (pre.length : Int) 0 r) (bif A'[pre.length] then Ac ++ [(pre.length : Int)] else Ac) (fun x hx => h x (List.mem_cons_of_mem _ hx)) (by rw [← app_at]; exact hn) h4
      (by simp only [List.length_append, List.length_singleton]; omega) (by cases A'[pre.length] <;> simp <;> omega)
    rw [app_at pre r suf, ih, List.drop_eq_getElem_cons hl]
    have e1 : (pre ++ [r]).length = pre.length + 1 := by simp
    rw [e1]
    cases A'[pre.length] <;> simp [allE, memL]

def ofSt (S : Int) : List Int := if S ≥ 0 then [S] else []
theorem of_f (L S : Int) (N : LLI) (A : LB) : nondet_Of.f L S N A = some (bif M.ok L S N A then (L, (((N.length : Nat) : Int), (ofSt S, (allE 0 N, (memL A 0, (0, ())))))) else (0, (0, ([], ([], ([], (1, ()))))))) := by
  rw [nondet_Of.f_eq, M.valid_f, bindD_some]
  cases hok : M.ok L S N A with
  | false => rfl
  | true =>
    have h := M.V_of hok
    have h8 : ∀ r ∈ N, r.length ≤ 8 := fun r hr => by have := (h.row r hr).1; have := h.l8; omega
    have key : ∀ (b0 b1 : Int) (c0 : List Int) (c1 : List Ed) (c2 St : List Int), nondet_Of.l8 N ((N.length : Nat) : Int) 0 L S N A b0 b1 L ((N.length : Nat) : Int) c0 c1 c2 St [] [] = some (L, (((N.length : Nat) : Int), (St, (allE 0 N, (memL A 0, (0, ())))))) := by
      intro b0 b1 c0 c1 c2 St
      have := of_l8 (L := L) L S N A b0 b1 ((N.length : Nat) : Int) c0 c1 c2 St N [] [] [] h8 (by rw [h.a]; rfl) (by rw [h.a]; have := h.n; omega) (by simp) (by simp)
      simpa using this
    rw [ifB_not _ _ (by rfl)]
    unfold ofSt
    by_cases h0 : S ≥ 0
    · rw [ifB_of _ _ (decide_eq_true h0), if_pos h0, key]; rfl
    · rw [ifB_not _ _ (decide_eq_false h0), if_neg h0, key]; rfl

/-! what is returned is valid -/
theorem asc_memL : ∀ (B : LB) (i n : Nat) (p : Option Int), i + B.length ≤ n → (∀ y, p = some y → y < (i : Int)) → ascP (n : Int) p (memL B i) = true
  | [], i, n, p, h, hp => rfl
  | b :: B, i, n, p, h, hp => by
    simp only [List.length_cons] at h
    cases b
    · exact asc_memL B (i + 1) n p (by omega) (fun y hy => by have := hp y hy; omega)
    · have ih := asc_memL B (i + 1) n (some (i : Int)) (by omega) (fun y hy => by cases hy; omega)
      cases p with
      | none =>
        simp only [memL, cond_true, ascP, Bool.and_eq_true, decide_eq_true_eq, ih, and_true]; omega
      | some y =>
        have := hp y rfl
        simp only [memL, cond_true, ascP, Bool.and_eq_true, decide_eq_true_eq, ih, and_true]; omega
/-- an edge ahead of all those of a state from a letter on -/
def Lt (p : Option Ed) (s : Int) (c : Int) : Prop := ∀ y, p = some y → y.1 < s ∨ (y.1 = s ∧ y.2.1 < c)
theorem edP_rowE {Sn : Int} {s : Int} (hs : 0 ≤ s ∧ s < Sn) (R : List Ed) : ∀ (r : List Int) (c : Nat) (p : Option Ed), ((c + r.length : Nat) : Int) ≤ L → (∀ t ∈ r, t < Sn) → Lt p s c → (∀ p', Lt p' (s + 1) 0 → edP L Sn p' R = true) → edP L Sn p (rowE s c r ++ R) = true
  | [], c, p, hc, ht, hp, hR => by
    refine hR p fun y hy => ?_
    rcases hp y hy with h | h <;> omega
  | t :: r, c, p, hc, ht, hp, hR => by
    simp only [List.length_cons] at hc
    unfold rowE
    by_cases h0 : t ≥ 0
    · rw [if_pos h0]
      have ih := edP_rowE hs R r (c + 1) (some (s, ((c : Int), t))) (by omega) (fun x hx => ht x (List.mem_cons_of_mem _ hx)) (fun y hy => by cases hy; right; exact ⟨rfl, by simp only; omega⟩) hR
      have h1 := ht t List.mem_cons_self
      have h2 : edB L Sn (s, ((c : Int), t)) = true := edB_true (by simp only; omega)
      cases p with
      | none => simp only [List.cons_append, List.nil_append, edP, h2, ih, Bool.and_self]
      | some y =>
        have h3 : aheadB y (s, ((c : Int), t)) = true := by
          unfold aheadB
          rcases hp y rfl with h | ⟨h, h'⟩
          · have : (y.1 != s) = true := by rw [bne_iff_ne]; omega
            simp only [this, cond_true]; exact decide_eq_true h
          · have : (y.1 != s) = false := by rw [bne_eq_false_iff_eq]; omega
            have h2 : (y.2.1 != (c : Int)) = true := by rw [bne_iff_ne]; omega
            simp only [this, cond_false, h2, cond_true]; exact decide_eq_true h'
        simp only [List.cons_append, List.nil_append, edP, h2, h3, ih, Bool.and_self]
    · rw [if_neg h0, List.nil_append]
      exact edP_rowE hs R r (c + 1) p (by omega) (fun x hx => ht x (List.mem_cons_of_mem _ hx)) (fun y hy => by rcases hp y hy with h | h <;> omega) hR
theorem edP_allE {n : Nat} : ∀ (N : LLI) (s : Nat) (p : Option Ed), s + N.length ≤ n → (∀ r ∈ N, (r.length : Int) ≤ L ∧ ∀ t ∈ r, t < (n : Int)) → Lt p s 0 → edP L (n : Int) p (allE s N) = true
  | [], s, p, h, hr, hp => rfl
  | r :: N, s, p, h, hr, hp => by
    simp only [List.length_cons] at h
    unfold allE
    obtain ⟨h1, h2⟩ := hr r List.mem_cons_self
    exact edP_rowE (by omega) (allE (s + 1) N) r 0 p (by omega) h2 hp fun p' hp' => edP_allE N (s + 1) p' (by omega) (fun x hx => hr x (List.mem_cons_of_mem _ hx)) (by
      intro y hy; have := hp' y hy; omega)
/-! its sets have one state at most -/
noncomputable def sgl (n : Nat) (s : Int) : LB := flg n fun i => i = s
theorem rch_none {E : List Ed} (hE : ∀ x ∈ E, 0 ≤ x.2.1) {X : Int → Prop} {i : Int} : Rch E X i ↔ X i := by
  constructor
  · intro h
    cases h with
    | base h => exact h
    | step h1 h2 _ => have := hE _ h1; omega
  · exact .base
theorem bat_sgl {n : Nat} {s i : Int} (hi : 0 ≤ i ∧ i < (n : Int)) : bat (sgl n s) i = true ↔ i = s := flg_bat hi
theorem clo_sgl {n : Nat} {E : List Ed} (hE : ∀ x ∈ E, 0 ≤ x.2.1) {X : Int → Prop} {s : Int} (h : ∀ i : Int, 0 ≤ i ∧ i < (n : Int) → (X i ↔ i = s)) : clo n E X = sgl n s :=
  flg_congr fun i hi => (rch_none hE).trans (h i hi)
theorem allE_pos {N : LLI} : ∀ x ∈ allE 0 N, 0 ≤ x.2.1 := by
  intro x hx
  obtain ⟨j, k, r, t, _, _, _, rfl⟩ := mem_allE.1 hx
  simp
theorem nxB_sgl (h : M.V L S N A) {s : Int} (hs : -1 ≤ s ∧ s < N.length) {c : Nat} (hc : (c : Int) < L) : nxB N.length (allE 0 N) (sgl N.length s) (c : Int) = sgl N.length (M.stp N s c) := by
  refine clo_sgl allE_pos fun i hi => ?_
  unfold tgt
  have hst := (M.stp_get h hs hc).1
  constructor
  · rintro ⟨x, hx, h1, h2, h3⟩
    obtain ⟨j, k, r, t, g1, g2, g3, rfl⟩ := mem_allE.1 hx
    simp only at h1 h2 h3
    have hk : k = c := by omega
    have hj := (List.getElem?_eq_some_iff.1 g1).1
    rw [Nat.zero_add] at h2
    have hjs : (j : Int) = s := (bat_sgl (by omega)).1 h2
    subst hk; subst h3; subst hjs
    rw [stp_at g1 g2]
  · intro hi2
    have hs0 : 0 ≤ s := by
      rcases Int.lt_or_le s 0 with h0 | h0
      · rw [M.stp_neg h0] at hi2; omega
      · exact h0
    obtain ⟨r, g1, g2⟩ := (M.stp_get h hs hc).2 hs0
    refine ⟨((s.toNat : Int), ((c : Int), M.stp N s c)), mem_allE.2 ⟨s.toNat, c, r, M.stp N s c, g1, g2, by omega, by simp⟩, rfl, ?_, hi2.symm⟩
    simp only
    exact (bat_sgl (by omega)).2 (by omega)
theorem st_sgl (h : M.V L S N A) : st0 N.length (allE 0 N) (ofSt S) = sgl N.length S := by
  refine clo_sgl allE_pos fun i hi => ?_
  unfold ofSt
  by_cases h0 : S ≥ 0
  · rw [if_pos h0]; simp
  · rw [if_neg h0]; simp; omega
theorem run_sgl (h : M.V L S N A) : ∀ (w : List Nat) (s : Int), -1 ≤ s ∧ s < N.length → (∀ c ∈ w, (c : Int) < L) → runB N.length (allE 0 N) (sgl N.length s) (w.map M.toI) = sgl N.length (M.run N s w)
  | [], s, hs, hw => rfl
  | c :: w, s, hs, hw => by
    have hc := hw c List.mem_cons_self
    show runB _ _ (nxB _ _ (sgl N.length s) (c : Int)) _ = _
    rw [nxB_sgl h hs hc]
    exact run_sgl h w _ (M.stp_get h hs hc).1 (fun x hx => hw x (List.mem_cons_of_mem _ hx))
theorem acc_sgl (h : M.V L S N A) {s : Int} (hs : -1 ≤ s ∧ s < N.length) : accB (memL A 0) (sgl N.length s) = M.acc A s := by
  rw [Bool.eq_iff_iff]
  unfold accB
  rw [List.any_eq_true]
  constructor
  · rintro ⟨x, hx, h1⟩
    obtain ⟨h2, h3⟩ := (mem_bat h.a x).1 hx
    have := (bat_sgl h2).1 h1
    subst this
    unfold M.acc bat at *
    rw [if_pos h2.1]; unfold ixAt at h3; rw [if_pos h2.1] at h3; exact h3
  · intro hx
    unfold M.acc at hx
    split at hx
    · rename_i h0
      refine ⟨s, (mem_bat h.a s).2 ⟨⟨h0, hs.2⟩, ?_⟩, (bat_sgl ⟨h0, hs.2⟩).2 rfl⟩
      unfold bat ixAt; rw [if_pos h0]; exact hx
    · cases hx
theorem runs_in (h : M.V L S N A) : ∀ (w : List Nat) (s : Int), -1 ≤ s ∧ s < N.length → (∀ c ∈ w, (c : Int) < L) → -1 ≤ M.run N s w ∧ M.run N s w < N.length
  | [], s, hs, _ => hs
  | c :: w, s, hs, hw => runs_in h w _ (M.stp_get h hs (hw c List.mem_cons_self)).1 (fun x hx => hw x (List.mem_cons_of_mem _ hx))
theorem of_lang (h : M.V L S N A) : nlang L N.length (ofSt S) (allE 0 N) (memL A 0) = M.lang L N A S := by
  funext w
  unfold nlang M.lang nacc
  cases hw : M.wdB L w with
  | false => rfl
  | true =>
    have hwd := M.wdB_iff.1 hw
    rw [st_sgl h, run_sgl h w S h.s hwd, acc_sgl h]
    exact runs_in h w S h.s hwd

/-! a construction with few sets does not fail -/
section
variable {n : Nat} {E : List Ed} {Ac : List Int}
theorem nodup_sub {α : Type} [DecidableEq α] : ∀ {l m : List α}, l.Nodup → (∀ x ∈ l, x ∈ m) → l.length ≤ m.length
  | [], m, _, _ => Nat.zero_le _
  | x :: l, m, hn, hm => by
    obtain ⟨h1, h2⟩ := List.nodup_cons.1 hn
    have h3 := nodup_sub (m := m.erase x) h2 fun y hy => by
      have hne : y ≠ x := fun e => h1 (e ▸ hy)
      exact (List.mem_erase_of_ne hne).2 (hm y (List.mem_cons_of_mem _ hy))
    have h4 := List.length_erase_of_mem (hm x List.mem_cons_self)
    have h5 := List.length_pos_of_mem (hm x List.mem_cons_self)
    simp only [List.length_cons]; omega
/-- a family of sets that is closed under the steps -/
structure Fam (n : Nat) (E : List Ed) (L : Nat) (G : List LB) : Prop where
  len : G.length ≤ 400
  step : ∀ l ∈ G, ∀ c : Nat, c < L → hasT (nxB n E l (c : Int)) = true → nxB n E l (c : Int) ∈ G
theorem dRow_some {L : Nat} {G : List LB} (hG : Fam n E L G) {l : LB} (hl : l ∈ G) : ∀ (f c : Nat) (fs : List LB) (row : List Int), c + f ≤ L → fs.Nodup → (∀ x ∈ fs, x ∈ G) →
    ∃ r, dRow n E l f c fs row = some r ∧ r.2.Nodup ∧ ∀ x ∈ r.2, x ∈ G
  | 0, c, fs, row, h, hn, hs => ⟨_, rfl, hn, hs⟩
  | f + 1, c, fs, row, h, hn, hs => by
    unfold dRow
    split
    · rename_i hh
      have hmem := hG.step l hl c (by omega) hh
      split
      · exact dRow_some hG hl f (c + 1) fs _ (by omega) hn hs
      · rename_i hm
        have hn2 : (fs ++ [nxB n E l (c : Int)]).Nodup := by
          rw [List.nodup_append]
          exact ⟨hn, by simp, fun a ha b hb => by rw [List.mem_singleton] at hb; subst hb; exact fun e => hm (e ▸ ha)⟩
        have hs2 : ∀ x ∈ fs ++ [nxB n E l (c : Int)], x ∈ G := fun x hx => by
          rcases List.mem_append.1 hx with hx | hx
          · exact hs x hx
          · rw [List.mem_singleton] at hx; subst hx; exact hmem
        have := nodup_sub hn2 hs2
        have h4 := hG.len
        rw [List.length_append, List.length_singleton] at this
        rw [if_neg (by omega)]
        exact dRow_some hG hl f (c + 1) _ _ (by omega) hn2 hs2
    · exact dRow_some hG hl f (c + 1) fs _ (by omega) hn hs
theorem dAll_some {L : Nat} {G : List LB} (hG : Fam n E L G) : ∀ (f i : Nat) (fs : List LB) (N : LLI) (A : LB), fs.Nodup → (∀ x ∈ fs, x ∈ G) → ∃ r, dAll L n E Ac f i fs N A = some r
  | 0, i, fs, N, A, _, _ => ⟨_, rfl⟩
  | f + 1, i, fs, N, A, hn, hs => by
    unfold dAll
    cases hx : fs[i]? with
    | none => exact ⟨_, rfl⟩
    | some l =>
      obtain ⟨r, h1, h2, h3⟩ := dRow_some hG (hs l (List.mem_of_getElem? hx)) L 0 fs [] (by omega) hn hs
      simp only [h1]
      exact dAll_some hG f (i + 1) r.2 _ _ h2 h3
/-- what Determine answers, where there are few sets -/
theorem detR_fam {L S : Int} {St : List Int} (hv : nok L S St E Ac = true) {G : List LB} (hG : Fam S.toNat E L.toNat G) (h0 : st0 S.toNat E St ∈ G) :
    detR L S St E Ac = canR L (nlang L S.toNat St E Ac) ∧ Sm L (nlang L S.toNat St E Ac) := by
  rcases detR_cases L S St E Ac with ⟨e, he, hD⟩ | ⟨_, h1, h2⟩
  · exfalso
    unfold detR at hD
    rw [hv, cond_true] at hD
    have hN := nv_of hv
    cases hSt : St with
    | nil =>
      rw [hSt] at hD
      have hW : M.W L [] [] := ⟨hN.l1, hN.l8, by simp, rfl, fun r hr => by cases hr⟩
      have hV : M.V L (-1) [] [] := hW.v (by simp) (by simp)
      simp only [List.isEmpty_nil, cond_true] at hD
      rw [minV_ok hV (.inl rfl)] at hD
      have := congrArg (fun x => x.2.2.2.2.1) hD
      exact he this.symm
    | cons s St' =>
      have hb : St.isEmpty = false := by rw [hSt]; rfl
      rw [hb, cond_false] at hD
      obtain ⟨r, hr⟩ := dAll_some (Ac := Ac) hG 401 0 [st0 S.toNat E St] [] [] (by simp) (by simpa using h0)
      rw [hr] at hD
      have hN' : NV L ((S.toNat : Nat) : Int) St E Ac := by
        have : ((S.toNat : Nat) : Int) = S := by have := hN.s0; omega
        rw [this]; exact hN
      rw [(dAll_lang hN' hr).1] at hD
      have := congrArg (fun x => x.2.2.2.2.1) hD
      exact he this.symm
  · exact ⟨h1, h2⟩
end
end
end Go.Proofs.C07
