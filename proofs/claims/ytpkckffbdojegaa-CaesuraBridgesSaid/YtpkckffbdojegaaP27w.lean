/- Plain words for the chapter of breaks, Bridges: where words can end. -/
import Derived.Test.YtpkckffbdojegaaP27v
set_option linter.unusedVariables false
set_option linter.unusedSimpArgs false
namespace Go.Proofs.K27
open Go Go.Proofs.R
set_option linter.unusedVariables false
set_option linter.unusedSimpArgs false
set_option linter.unusedSectionVars false
set_option maxRecDepth 100000

theorem set_at {α : Type} (p : List α) (x y : α) (s : List α) : setRow (p ++ x :: s) ((p.length : Nat) : Int) y = p ++ y :: s := by
  unfold setRow; rw [Int.toNat_natCast, List.set_append_right _ _ (Nat.le_refl _)]; simp
theorem mkLen_ok {n : Nat} (h : n ≤ 1000000) : mkLen ((n : Nat) : Int) ((n : Nat) : Int) = some n := by
  unfold mkLen mostLen; rw [if_pos ⟨by omega, by omega, by omega⟩]; rfl

def trg (C : LB) (t : Int) : Bool := bif decide (t ≥ 0) then C[t.toNat]?.getD false else false
def canRow (N : LLI) (A : LB) : Nat → LB
  | 0 => A
  | k + 1 => N.map fun r => r.any (trg (canRow N A k))

section
variable {L S : Int} {N : LLI} {A : LB}
theorem canRow_len (h : V L S N A) : ∀ k, (canRow N A k).length = N.length
  | 0 => h.a
  | k + 1 => by simp [canRow]
def tab (N : LLI) (A : LB) (k : Nat) : List LB := (List.range k).map (canRow N A)
theorem tab_len (k : Nat) : (tab N A k).length = k := by simp [tab]
theorem tab_succ (k : Nat) : tab N A (k + 1) = tab N A k ++ [canRow N A k] := by simp [tab, List.range_succ]
theorem tab_at {k j : Nat} (hj : j < k) : ixAt (tab N A k) ((j : Nat) : Int) = some (canRow N A j) := by
  rw [ixAt_nat]; simp [tab, hj]

/-! ### the program's table -/
theorem get_row (h : V L S N A) {k : Nat} {t : Int} (h0 : 0 ≤ t) (ht : t < N.length) : ixAt (canRow N A k) t = some (trg (canRow N A k) t) := by
  have : t.toNat < (canRow N A k).length := by rw [canRow_len h]; omega
  rw [ixAt_int _ h0, List.getElem?_eq_getElem this]
  unfold trg; rw [decide_eq_true h0, cond_true, List.getElem?_eq_getElem this]; rfl
theorem can_f (h : V L S N A) {k m : Nat} (hk : k < m) {t : Int} (ht : t < N.length) : compile_Ends_1.f t (tab N A m) ((k : Nat) : Int) = some (trg (canRow N A k) t, ()) := by
  rw [compile_Ends_1.f_eq]
  by_cases h0 : t ≥ 0
  · rw [ifB_of _ _ (decide_eq_true h0), tab_at hk, bindD_some, get_row h h0 ht, bindD_some]
  · rw [ifB_not _ _ (decide_eq_false h0)]; unfold trg; rw [decide_eq_false h0]; rfl
theorem any_l2 (h : V L S N A) {k m : Nat} (hk : k < m) : ∀ (suf pre : List Int), (pre ++ suf).length < 4611686018427387904 → (∀ t ∈ suf, t < N.length) →
    ∃ i : Int, slices_IndexFunc_int_int.l2_2 (pre ++ suf) (tab N A m) ((k : Nat) : Int) ((pre ++ suf).length : Nat) (pre.length : Nat) = some (i, ()) ∧ decide (i ≥ 0) = suf.any (trg (canRow N A k))
  | [], pre, hl, _ => by rw [slices_IndexFunc_int_int.l2_2_eq, ifB_not _ _ (lt_end pre)]; exact ⟨-1, rfl, rfl⟩
  | x :: suf, pre, hl, ht => by
    rw [slices_IndexFunc_int_int.l2_2_eq, ifB_of _ _ (lt_at pre x suf), ixAt_at, bindD_some, can_f h hk (ht x List.mem_cons_self), bindD_some]
    cases hb : trg (canRow N A k) x with
    | true => exact ⟨_, rfl, by simp [hb]⟩
    | false =>
      obtain ⟨i, h1, h2⟩ := any_l2 h hk suf (pre ++ [x]) (by rw [← app_at]; exact hl) (fun t h => ht t (List.mem_cons_of_mem _ h))
      refine ⟨i, ?_, by simp [hb, h2]⟩
      rw [ifB_false, w_at hl, app_at pre x suf]; exact h1
theorem any_f (h : V L S N A) {k m : Nat} (hk : k < m) {r : List Int} (hr : r ∈ N) : slices_ContainsFunc_int_int.f2 r (tab N A m) ((k : Nat) : Int) = some (r.any (trg (canRow N A k)), ()) := by
  obtain ⟨hr1, hr2⟩ := h.row r hr
  have := h.l8
  obtain ⟨i, h1, h2⟩ := any_l2 h hk r [] (by simp; omega) (fun t ht => (hr2 t ht).2)
  rw [slices_ContainsFunc_int_int.f2_eq, slices_IndexFunc_int_int.f2_eq]
  simp only [List.nil_append, List.length_nil] at h1
  rw [show ((0 : Nat) : Int) = 0 from rfl] at h1
  rw [h1]; simp only [bindD_some, h2]
theorem fill_l11 (h : V L S N A) {n k : Nat} (hk : k < n) (hn : n ≤ 60) : ∀ (suf pre : LLI), N = pre ++ suf →
    compile_Ends.l11 (n : Int) (n : Int) (k : Int) ((N.length : Nat) : Int) ((pre.length : Nat) : Int) L S N A (k : Int) (pre.map (fun r => r.any (trg (canRow N A k))) ++ List.replicate suf.length false) (tab N A (k + 1)) =
      compile_Ends.l7 (n : Int) (n : Int) ((k + 1 : Nat) : Int) L S N A (tab N A (k + 2))
  | [], pre, e => by
    have e1 : N = pre := by rw [e]; simp
    rw [compile_Ends.l11_eq, ifB_not _ _ (decide_eq_false (by rw [e1]; omega)), grow_ok (by rw [tab_len]; simp; omega), bindD_some, w64_succ (by omega), tab_succ (k + 1)]
    congr 2
    rw [← e1]; simp [canRow]
  | r :: suf, pre, e => by
    have hlen : N.length = pre.length + (suf.length + 1) := by rw [e]; simp
    have hn4 := h.n
    have hix : ixAt N ((pre.length : Nat) : Int) = some r := by have := ixAt_at pre r suf; rwa [← e] at this
    have hml : (pre.map (fun r => r.any (trg (canRow N A k)))).length = pre.length := by simp
    have hrow : pre.map (fun r => r.any (trg (canRow N A k))) ++ List.replicate (r :: suf).length false = pre.map (fun r => r.any (trg (canRow N A k))) ++ false :: List.replicate suf.length false := by simp [List.replicate_succ]
    have hat : ixAt (pre.map (fun r => r.any (trg (canRow N A k))) ++ false :: List.replicate suf.length false) ((pre.length : Nat) : Int) = some false := by
      rw [← hml]; exact ixAt_at _ _ _
    have hset : ∀ b, setRow (pre.map (fun r => r.any (trg (canRow N A k))) ++ false :: List.replicate suf.length false) ((pre.length : Nat) : Int) b = pre.map (fun r => r.any (trg (canRow N A k))) ++ b :: List.replicate suf.length false := by
      intro b; rw [← hml]; exact set_at _ _ _ _
    have ih := fill_l11 h hk hn suf (pre ++ [r]) (by rw [e]; simp)
    rw [hrow, compile_Ends.l11_eq, ifB_of _ _ (decide_eq_true (by omega)), hix, bindD_some, any_f h (Nat.lt_succ_self k) (by rw [e]; simp), bindD_some, hat, bindD_some, bindD_some, hset, w64_succ (by omega)]
    rw [show (((pre ++ [r]).length : Nat) : Int) = ((pre.length + 1 : Nat) : Int) by simp] at ih
    rw [← ih]
    simp
theorem table_l7 (h : V L S N A) {n : Nat} (hn : n ≤ 60) : ∀ (f k : Nat), k + f = n → compile_Ends.l7 (n : Int) (n : Int) (k : Int) L S N A (tab N A (k + 1)) = compile_Ends.l7 (n : Int) (n : Int) (n : Int) L S N A (tab N A (n + 1))
  | 0, k, e => by rw [show k = n by omega]
  | f + 1, k, e => by
    have hn4 := h.n
    have hf := fill_l11 h (n := n) (k := k) (by omega) hn N [] rfl
    simp only [List.map_nil, List.nil_append, List.length_nil] at hf
    rw [show ((0 : Nat) : Int) = 0 from rfl] at hf
    rw [compile_Ends.l7_eq, ifB_of _ _ (decide_eq_true (by omega)), mkLen_ok (by omega), bindD_some, List.length_replicate, hf]
    exact table_l7 h hn f (k + 1) (by omega)

/-! ### the reference's table -/
theorem ref_l15 (h : V L S N A) (hL : L = 4) {n k s : Nat} (hk : k + 1 ≤ n) (hn : n ≤ 60) {r : List Int} (hr : N[s]? = some r) {ra rb : LB} (hra : ra.length = s) {R : List LB} : ∀ (suf pre : List Int) (b : Bool), r = pre ++ suf →
    ancepsref24_Ends.l15 (n : Int) ((k + 1 : Nat) : Int) (s : Int) ((pre.length : Nat) : Int) L S N A (tab N A (k + 1) ++ (ra ++ b :: rb) :: R) =
      ancepsref24_Ends.l11 (n : Int) ((k + 1 : Nat) : Int) ((s + 1 : Nat) : Int) L S N A (tab N A (k + 1) ++ (ra ++ (b || suf.any (trg (canRow N A k))) :: rb) :: R)
  | [], pre, b, e => by
    have hs : s < N.length := (List.getElem?_eq_some_iff.1 hr).1
    have hn4 := h.n
    obtain ⟨h1, h2⟩ := h.row r (List.mem_of_getElem? hr)
    have hp : pre.length = 4 := by rw [e] at h1; simp at h1; omega
    rw [ancepsref24_Ends.l15_eq, ifB_not _ _ (decide_eq_false (by omega)), w64_succ (by omega)]; simp
  | t :: suf, pre, b, e => by
    have hs : s < N.length := (List.getElem?_eq_some_iff.1 hr).1
    have hn4 := h.n
    obtain ⟨h1, h2⟩ := h.row r (List.mem_of_getElem? hr)
    have hp : pre.length < 4 := by rw [e] at h1; simp at h1; omega
    have ht := h2 t (by rw [e]; simp)
    have htl : (tab N A (k + 1)).length = k + 1 := tab_len _
    have hrow : ∀ x : LB, ixAt (tab N A (k + 1) ++ x :: R) ((k + 1 : Nat) : Int) = some x := by intro x; have := ixAt_at (tab N A (k + 1)) x R; rw [htl] at this; exact this
    have hset : ∀ x y : LB, setRow (tab N A (k + 1) ++ x :: R) ((k + 1 : Nat) : Int) y = tab N A (k + 1) ++ y :: R := by intro x y; have := set_at (tab N A (k + 1)) x y R; rw [htl] at this; exact this
    have hprev : ∀ x : LB, ixAt (tab N A (k + 1) ++ x :: R) (IntKind.i64.wrap (((k + 1 : Nat) : Int) - 1)) = some (canRow N A k) := by
      intro x
      rw [show (((k + 1 : Nat) : Int) - 1) = ((k : Nat) : Int) by omega, w64_nat (by omega), ixAt_nat, List.getElem?_append_left (by rw [htl]; omega), ← ixAt_nat]
      exact tab_at (by omega)
    have hrs : ∀ y : Bool, ixAt (ra ++ y :: rb) ((s : Nat) : Int) = some y := by intro y; rw [← hra]; exact ixAt_at _ _ _
    have hss : ∀ y z : Bool, setRow (ra ++ y :: rb) ((s : Nat) : Int) z = ra ++ z :: rb := by intro y z; rw [← hra]; exact set_at _ _ _ _
    have hwp : IntKind.i64.wrap (((pre.length : Nat) : Int) + 1) = (((pre ++ [t]).length : Nat) : Int) := by rw [w64_succ (by omega)]; simp
    have hxt : ixAt r ((pre.length : Nat) : Int) = some t := by rw [e]; exact ixAt_at _ _ _
    have hxr : ixAt N ((s : Nat) : Int) = some r := by rw [ixAt_nat]; exact hr
    rw [ancepsref24_Ends.l15_eq, ifB_of _ _ (decide_eq_true (by omega)), ifB_of _ _ (decide_eq_true (by omega)), hxr, bindD_some, hxt, bindD_some]
    by_cases h0 : t ≥ 0
    · rw [ifB_of _ _ (decide_eq_true h0)]
      simp only [hprev, bindD_some, get_row h h0 ht.2, hrow, hrs, hss, hset, hwp]
      cases hc : trg (canRow N A k) t with
      | true =>
        rw [ifB_true, ref_l15 h hL hk hn hr hra suf (pre ++ [t]) true (by rw [e]; simp)]
        simp [hc]
      | false =>
        rw [ifB_false, ref_l15 h hL hk hn hr hra suf (pre ++ [t]) b (by rw [e]; simp)]
        simp [hc]
    · rw [ifB_not _ _ (decide_eq_false h0), hwp, ref_l15 h hL hk hn hr hra suf (pre ++ [t]) b (by rw [e]; simp)]
      have : trg (canRow N A k) t = false := by unfold trg; rw [decide_eq_false h0]; rfl
      simp [this]
theorem ref_l11z (h : V L S N A) {n : Nat} (hn : n ≤ 60) {R : List LB} : ∀ (suf pre : LB), A = pre ++ suf →
    ancepsref24_Ends.l11 (n : Int) 0 ((pre.length : Nat) : Int) L S N A ((pre ++ List.replicate suf.length false) :: R) = ancepsref24_Ends.l7 (n : Int) ((1 : Nat) : Int) L S N A (A :: R)
  | [], pre, e => by
    have hA := h.a
    have e1 : A = pre := by rw [e]; simp
    rw [ancepsref24_Ends.l11_eq, ifB_not _ _ (decide_eq_false (by rw [← hA, e1]; omega)), e1]
    simp only [List.length_nil, List.replicate_zero, List.append_nil]
    rw [show IntKind.i64.wrap ((0 : Int) + 1) = ((1 : Nat) : Int) by rfl]
  | b :: suf, pre, e => by
    have hA := h.a
    have hn4 := h.n
    have hlen : A.length = pre.length + (suf.length + 1) := by rw [e]; simp
    have hrow : pre ++ List.replicate (b :: suf).length false = pre ++ false :: List.replicate suf.length false := by simp [List.replicate_succ]
    have h0 : ∀ x : LB, ixAt (x :: R) 0 = some x := fun x => ixAt_zero x R
    have h1 : ∀ x y : LB, setRow (x :: R) 0 y = y :: R := fun x y => rfl
    have hA2 : ixAt A ((pre.length : Nat) : Int) = some b := by have := ixAt_at pre b suf; rwa [← e] at this
    have ih := ref_l11z h hn (R := R) suf (pre ++ [b]) (by rw [e]; simp)
    rw [hrow, ancepsref24_Ends.l11_eq, ifB_of _ _ (decide_eq_true (by omega)), h0, bindD_some, bindD_some, ifB_of _ _ (by rfl), hA2, bindD_some]
    simp only [bindD_some, ixAt_at, set_at, h1]
    rw [ancepsref24_Ends.l15_eq, ifB_of _ _ (by rfl), ifB_not _ _ (by rfl), w64_succ (by omega)]
    rw [show (((pre ++ [b]).length : Nat) : Int) = ((pre.length + 1 : Nat) : Int) by simp] at ih
    rw [← ih]; simp
theorem ref_l11s (h : V L S N A) (hL : L = 4) {n k : Nat} (hk : k + 1 ≤ n) (hn : n ≤ 60) {R : List LB} : ∀ (suf pre : LLI), N = pre ++ suf →
    ancepsref24_Ends.l11 (n : Int) ((k + 1 : Nat) : Int) ((pre.length : Nat) : Int) L S N A (tab N A (k + 1) ++ (pre.map (fun r => r.any (trg (canRow N A k))) ++ List.replicate suf.length false) :: R) =
      ancepsref24_Ends.l7 (n : Int) ((k + 2 : Nat) : Int) L S N A (tab N A (k + 2) ++ R)
  | [], pre, e => by
    have e1 : N = pre := by rw [e]; simp
    rw [ancepsref24_Ends.l11_eq, ifB_not _ _ (decide_eq_false (by rw [e1]; omega)), w64_succ (by omega), tab_succ (k + 1)]
    congr 1
    rw [← e1]; simp [canRow]
  | r :: suf, pre, e => by
    have hlen : N.length = pre.length + (suf.length + 1) := by rw [e]; simp
    have hn4 := h.n
    have hml : (pre.map (fun r => r.any (trg (canRow N A k)))).length = pre.length := by simp
    have hrow : pre.map (fun r => r.any (trg (canRow N A k))) ++ List.replicate (r :: suf).length false = pre.map (fun r => r.any (trg (canRow N A k))) ++ false :: List.replicate suf.length false := by simp [List.replicate_succ]
    have htl : (tab N A (k + 1)).length = k + 1 := tab_len _
    have hx : ∀ x : LB, ixAt (tab N A (k + 1) ++ x :: R) ((k + 1 : Nat) : Int) = some x := by intro x; have := ixAt_at (tab N A (k + 1)) x R; rw [htl] at this; exact this
    have hset : ∀ x y : LB, setRow (tab N A (k + 1) ++ x :: R) ((k + 1 : Nat) : Int) y = tab N A (k + 1) ++ y :: R := by intro x y; have := set_at (tab N A (k + 1)) x y R; rw [htl] at this; exact this
    have hrs : ixAt (pre.map (fun r => r.any (trg (canRow N A k))) ++ false :: List.replicate suf.length false) ((pre.length : Nat) : Int) = some false := by rw [← hml]; exact ixAt_at _ _ _
    have hss : setRow (pre.map (fun r => r.any (trg (canRow N A k))) ++ false :: List.replicate suf.length false) ((pre.length : Nat) : Int) false = pre.map (fun r => r.any (trg (canRow N A k))) ++ false :: List.replicate suf.length false := by rw [← hml]; exact set_at _ _ _ _
    have hr : N[pre.length]? = some r := by
      have : (pre ++ r :: suf)[pre.length]? = some r := by simp
      rwa [← e] at this
    have ih := ref_l11s h hL hk hn (R := R) suf (pre ++ [r]) (by rw [e]; simp)
    have h15 := ref_l15 h hL hk hn hr hml (rb := List.replicate suf.length false) (R := R) r [] false rfl
    simp only [List.length_nil] at h15
    rw [show ((0 : Nat) : Int) = 0 from rfl] at h15
    rw [hrow, ancepsref24_Ends.l11_eq, ifB_of _ _ (decide_eq_true (by omega)), hx, bindD_some, bindD_some, ifB_not _ _ (beq_eq_false_iff_ne.2 (by omega))]
    simp only [bindD_some, hrs, hss, hset]
    rw [h15]
    rw [show (((pre ++ [r]).length : Nat) : Int) = ((pre.length + 1 : Nat) : Int) by simp] at ih
    rw [← ih]; simp
theorem reft_l7 (h : V L S N A) (hL : L = 4) {n : Nat} (hn : n ≤ 60) : ∀ (f k : Nat), k + f = n + 1 →
    ancepsref24_Ends.l7 (n : Int) (k : Int) L S N A (tab N A k ++ List.replicate f []) = ancepsref24_Ends.l7 (n : Int) ((n + 1 : Nat) : Int) L S N A (tab N A (n + 1))
  | 0, k, e => by rw [show k = n + 1 by omega]; simp
  | f + 1, k, e => by
    have hn4 := h.n
    have htl : (tab N A k).length = k := tab_len _
    have hrow : List.replicate (f + 1) ([] : LB) = [] :: List.replicate f [] := rfl
    have hx : ixAt (tab N A k ++ [] :: List.replicate f []) ((k : Nat) : Int) = some [] := by
      have := ixAt_at (tab N A k) ([] : LB) (List.replicate f []); rw [htl] at this; exact this
    have hset : ∀ y, setRow (tab N A k ++ [] :: List.replicate f []) ((k : Nat) : Int) y = tab N A k ++ y :: List.replicate f [] := by
      intro y; have := set_at (tab N A k) ([] : LB) y (List.replicate f []); rw [htl] at this; exact this
    rw [hrow, ancepsref24_Ends.l7_eq, ifB_of _ _ (decide_eq_true (by omega)), mkLen_ok (by omega), bindD_some, hx, bindD_some, bindD_some, hset]
    have ih := reft_l7 h hL hn f (k + 1) (by omega)
    cases k with
    | zero =>
      have h11 := ref_l11z h hn (R := List.replicate f []) A [] rfl
      simp only [List.length_nil, List.nil_append] at h11
      rw [show ((0 : Nat) : Int) = 0 from rfl, h.a] at h11
      refine Eq.trans ?_ (h11.trans ?_)
      · simp [tab]
      · rw [← ih]; simp [tab, canRow]
    | succ k =>
      have h11 := ref_l11s h hL (n := n) (k := k) (by omega) hn (R := List.replicate f []) N [] rfl
      simp only [List.length_nil, List.nil_append, List.map_nil] at h11
      rw [show ((0 : Nat) : Int) = 0 from rfl] at h11
      exact h11.trans ih

/-! ### the walk -/
def upd1 (C : LB) (l : Nat) (t : Int) (p : Bool × LB) : Bool × LB := bif trg C t then (p.1 || decide (2 ≤ l), p.2.set t.toNat true) else p
def rowU (C : LB) : List Int → Nat → Bool × LB → Bool × LB
  | [], _, p => p
  | t :: r, l, p => rowU C r (l + 1) (upd1 C l t p)
def allU (C : LB) : LB → LLI → Bool × LB → Bool × LB
  | b :: bs, r :: rs, p => allU C bs rs (bif b then rowU C r 0 p else p)
  | _, _, p => p
def res (N : LLI) (A : LB) (n : Nat) : Nat → Nat → LB → List Int → List Int
  | 0, _, _, out => out
  | f + 1, i, now, out => res N A n f (i + 1) (allU (canRow N A (n - i)) now N (false, List.replicate N.length false)).2
      (bif (allU (canRow N A (n - i)) now N (false, List.replicate N.length false)).1 then out ++ [((i : Nat) : Int)] else out)

theorem upd1_len (C : LB) (l : Nat) (t : Int) (p : Bool × LB) : (upd1 C l t p).2.length = p.2.length := by unfold upd1; cases trg C t <;> simp
theorem rowU_len (C : LB) : ∀ (r : List Int) (l : Nat) (p : Bool × LB), (rowU C r l p).2.length = p.2.length
  | [], _, _ => rfl
  | t :: r, l, p => by rw [rowU, rowU_len C r, upd1_len]
theorem allU_len (C : LB) : ∀ (bs : LB) (rs : LLI) (p : Bool × LB), (allU C bs rs p).2.length = p.2.length
  | [], _, _ => rfl
  | _ :: _, [], _ => rfl
  | b :: bs, r :: rs, p => by rw [allU, allU_len C bs rs]; cases b <;> simp [rowU_len]

theorem set_int {xs : LB} {t : Int} (b : Bool) : setRow xs t b = xs.set t.toNat b := rfl
theorem get_any {xs : LB} {t : Int} (h0 : 0 ≤ t) (h : t < xs.length) : ∃ b, ixAt xs t = some b := by
  rw [ixAt_int _ h0]; exact ⟨_, List.getElem?_eq_getElem (by omega)⟩

theorem walk_l31 (h : V L S N A) {n i q : Nat} (hi : 1 ≤ i ∧ i ≤ n) (hn : n ≤ 60) (hq : q < 1000) {len : Int} {now : LB} {out : List Int} {r : List Int} (hr : r ∈ N) : ∀ (suf pre : List Int) (p : Bool × LB), r = pre ++ suf → p.2.length = N.length →
    compile_Ends.l31 (n : Int) (i : Int) p.1 len (q : Int) r ((r.length : Nat) : Int) ((pre.length : Nat) : Int) L S N A out p.2 now (tab N A (n + 1)) =
      compile_Ends.l27 (n : Int) (i : Int) (rowU (canRow N A (n - i)) suf pre.length p).1 len ((q + 1 : Nat) : Int) L S N A out (rowU (canRow N A (n - i)) suf pre.length p).2 now (tab N A (n + 1))
  | [], pre, p, e, hp => by
    rw [compile_Ends.l31_eq, ifB_not _ _ (decide_eq_false (by rw [e]; simp)), w64_succ (by omega)]; rfl
  | t :: suf, pre, p, e, hp => by
    obtain ⟨h1, h2⟩ := h.row r hr
    have hl8 := h.l8
    have hn4 := h.n
    have ht := h2 t (by rw [e]; simp)
    have hpl : pre.length < 8 := by rw [e] at h1; simp at h1; omega
    have hwp : IntKind.i64.wrap (((pre.length : Nat) : Int) + 1) = (((pre ++ [t]).length : Nat) : Int) := by rw [w64_succ (by omega)]; simp
    have hxt : ixAt r ((pre.length : Nat) : Int) = some t := by rw [e]; exact ixAt_at _ _ _
    have hpl2 : (pre ++ [t]).length = pre.length + 1 := by simp
    have hT : ixAt (tab N A (n + 1)) (IntKind.i64.wrap ((n : Int) - (i : Int))) = some (canRow N A (n - i)) := by
      rw [show ((n : Int) - (i : Int)) = ((n - i : Nat) : Int) by omega, w64_nat (by omega)]; exact tab_at (by omega)
    have ih := fun p hp => walk_l31 h hi hn hq (len := len) (now := now) (out := out) hr suf (pre ++ [t]) p (by rw [e]; simp) hp
    rw [compile_Ends.l31_eq, ifB_of _ _ (decide_eq_true (by rw [e]; simp; omega)), hxt, bindD_some]
    unfold rowU
    rw [← hpl2]
    by_cases h0 : t ≥ 0
    · obtain ⟨b, hb⟩ := get_any (xs := p.2) h0 (by rw [hp]; exact ht.2)
      rw [ifB_of _ _ (decide_eq_true h0)]
      simp only [hT, bindD_some, get_row h h0 ht.2, hb, hwp, set_int]
      cases hc : trg (canRow N A (n - i)) t with
      | true =>
        have hu : upd1 (canRow N A (n - i)) pre.length t p = (p.1 || decide (2 ≤ pre.length), p.2.set t.toNat true) := by unfold upd1; rw [hc]; rfl
        rw [ifB_true, hu, ← ih _ (by simp [hp])]
        cases hp1 : p.1 with
        | true => rw [ifB_true]; simp
        | false =>
          rw [ifB_false]
          have : decide (((pre.length : Nat) : Int) ≥ 2) = decide (2 ≤ pre.length) := decide_eq_decide.2 (by omega)
          simp [this]
      | false =>
        have hu : upd1 (canRow N A (n - i)) pre.length t p = p := by unfold upd1; rw [hc]; rfl
        rw [ifB_false, hu]; exact ih p hp
    · have hc : trg (canRow N A (n - i)) t = false := by unfold trg; rw [decide_eq_false h0]; rfl
      have hu : upd1 (canRow N A (n - i)) pre.length t p = p := by unfold upd1; rw [hc]; rfl
      rw [ifB_not _ _ (decide_eq_false h0), hwp, hu]; exact ih p hp
theorem walk_l27 (h : V L S N A) {n i : Nat} (hi : 1 ≤ i ∧ i ≤ n) (hn : n ≤ 60) {out : List Int} : ∀ (rs : LLI) (bs : LB) (Np : LLI) (bp : LB) (p : Bool × LB), N = Np ++ rs → bs.length = rs.length → bp.length = Np.length → p.2.length = N.length →
    compile_Ends.l27 (n : Int) (i : Int) p.1 (((bp ++ bs).length : Nat) : Int) ((bp.length : Nat) : Int) L S N A out p.2 (bp ++ bs) (tab N A (n + 1)) =
      compile_Ends.l27 (n : Int) (i : Int) (allU (canRow N A (n - i)) bs rs p).1 (((bp ++ bs).length : Nat) : Int) (((bp ++ bs).length : Nat) : Int) L S N A out (allU (canRow N A (n - i)) bs rs p).2 (bp ++ bs) (tab N A (n + 1))
  | [], [], Np, bp, p, e, h1, h2, hp => by simp [allU]
  | [], _ :: _, _, _, _, _, h1, _, _ => by simp at h1
  | _ :: _, [], _, _, _, _, h1, _, _ => by simp at h1
  | r :: rs, b :: bs, Np, bp, p, e, h1, h2, hp => by
    have hn4 := h.n
    have hlen : N.length = Np.length + (rs.length + 1) := by rw [e]; simp
    have hxr : ixAt N ((bp.length : Nat) : Int) = some r := by have := ixAt_at Np r rs; rw [← e] at this; rw [h2]; exact this
    have hpl2 : (bp ++ [b]).length = bp.length + 1 := by simp
    have ih := fun p hp => walk_l27 h hi hn (out := out) rs bs (Np ++ [r]) (bp ++ [b]) p (by rw [e]; simp) (by simpa using h1) (by simp [h2]) hp
    rw [← app_at] at ih
    rw [hpl2] at ih
    rw [compile_Ends.l27_eq, ifB_of _ _ (lt_at bp b bs), ixAt_at, bindD_some, bindD_some]
    cases b with
    | false =>
      rw [ifB_of _ _ (by rfl), w64_succ (by omega)]
      exact ih p hp
    | true =>
      have h31 := walk_l31 h hi hn (q := bp.length) (by omega) (len := (((bp ++ true :: bs).length : Nat) : Int)) (now := bp ++ true :: bs) (out := out) (r := r) (by rw [e]; simp) r [] p rfl hp
      simp only [List.length_nil] at h31
      rw [show ((0 : Nat) : Int) = 0 from rfl] at h31
      rw [ifB_not _ _ (by rfl), hxr, bindD_some, h31]
      exact ih _ (by rw [rowU_len]; exact hp)
theorem walk_l23 (h : V L S N A) {n : Nat} (hn : n ≤ 60) : ∀ (f i : Nat) (now : LB) (out : List Int), i + f = n + 1 → 1 ≤ i → now.length = N.length → out.length ≤ i →
    compile_Ends.l23 (n : Int) (i : Int) L S N A out now (tab N A (n + 1)) = some (res N A n f i now out, ((0 : Int), ()))
  | 0, i, now, out, e, h1, h2, ho => by rw [compile_Ends.l23_eq, ifB_not _ _ (decide_eq_false (by omega))]; rfl
  | f + 1, i, now, out, e, h1, h2, ho => by
    have hn4 := h.n
    have h27 := walk_l27 h (n := n) (i := i) ⟨h1, by omega⟩ hn (out := out) N now [] [] (false, List.replicate N.length false) rfl h2 rfl (by simp)
    simp only [List.nil_append, List.length_nil] at h27
    rw [show ((0 : Nat) : Int) = 0 from rfl] at h27
    have ih := fun out ho => walk_l23 h hn f (i + 1) (allU (canRow N A (n - i)) now N (false, List.replicate N.length false)).2 out (by omega) (by omega) (by rw [allU_len]; simp) ho
    rw [compile_Ends.l23_eq, ifB_of _ _ (decide_eq_true (by omega)), mkLen_ok (by omega), bindD_some, h27, compile_Ends.l27_eq, ifB_not _ _ (decide_eq_false (by omega)), w64_succ (by omega)]
    unfold res
    cases (allU (canRow N A (n - i)) now N (false, List.replicate N.length false)).1 with
    | true => rw [ifB_true, grow_ok (by simp; omega), bindD_some, cond_true]; exact ih _ (by simp; omega)
    | false => rw [ifB_false, cond_false]; exact ih _ (by omega)

/-! the reference's walk -/
theorem ref_l33 (h : V L S N A) (hL : L = 4) {n i s : Nat} (hi : 1 ≤ i ∧ i ≤ n) (hn : n ≤ 60) {now : LB} {out : List Int} {r : List Int} (hr : N[s]? = some r) (hnow : now[s]? = some true) : ∀ (suf pre : List Int) (p : Bool × LB), r = pre ++ suf → p.2.length = N.length →
    ancepsref24_Ends.l33 (n : Int) (i : Int) p.1 (s : Int) ((pre.length : Nat) : Int) L S N A (tab N A (n + 1)) out now p.2 =
      ancepsref24_Ends.l30 (n : Int) (i : Int) (rowU (canRow N A (n - i)) suf pre.length p).1 ((s + 1 : Nat) : Int) L S N A (tab N A (n + 1)) out now (rowU (canRow N A (n - i)) suf pre.length p).2
  | [], pre, p, e, hp => by
    have hs : s < N.length := (List.getElem?_eq_some_iff.1 hr).1
    have hn4 := h.n
    obtain ⟨h1, h2⟩ := h.row r (List.mem_of_getElem? hr)
    have hpl : pre.length = 4 := by rw [e] at h1; simp at h1; omega
    rw [ancepsref24_Ends.l33_eq, ifB_not _ _ (decide_eq_false (by omega)), w64_succ (by omega)]; rfl
  | t :: suf, pre, p, e, hp => by
    have hs : s < N.length := (List.getElem?_eq_some_iff.1 hr).1
    obtain ⟨h1, h2⟩ := h.row r (List.mem_of_getElem? hr)
    have hn4 := h.n
    have ht := h2 t (by rw [e]; simp)
    have hpl : pre.length < 4 := by rw [e] at h1; simp at h1; omega
    have hwp : IntKind.i64.wrap (((pre.length : Nat) : Int) + 1) = (((pre ++ [t]).length : Nat) : Int) := by rw [w64_succ (by omega)]; simp
    have hxt : ixAt r ((pre.length : Nat) : Int) = some t := by rw [e]; exact ixAt_at _ _ _
    have hxr : ixAt N ((s : Nat) : Int) = some r := by rw [ixAt_nat]; exact hr
    have hxn : ixAt now ((s : Nat) : Int) = some true := by rw [ixAt_nat]; exact hnow
    have hpl2 : (pre ++ [t]).length = pre.length + 1 := by simp
    have hT : ixAt (tab N A (n + 1)) (IntKind.i64.wrap ((n : Int) - (i : Int))) = some (canRow N A (n - i)) := by
      rw [show ((n : Int) - (i : Int)) = ((n - i : Nat) : Int) by omega, w64_nat (by omega)]; exact tab_at (by omega)
    have ih := fun p hp => ref_l33 h hL hi hn (out := out) hr hnow suf (pre ++ [t]) p (by rw [e]; simp) hp
    rw [ancepsref24_Ends.l33_eq, ifB_of _ _ (decide_eq_true (by omega)), hxn, bindD_some, bindD_some, ifB_true, hxr, bindD_some, hxt, bindD_some]
    unfold rowU
    rw [← hpl2]
    by_cases h0 : t ≥ 0
    · obtain ⟨b, hb⟩ := get_any (xs := p.2) h0 (by rw [hp]; exact ht.2)
      rw [ifB_of _ _ (decide_eq_true h0)]
      simp only [hT, bindD_some, get_row h h0 ht.2, hb, hwp, set_int]
      cases hc : trg (canRow N A (n - i)) t with
      | true =>
        have hu : upd1 (canRow N A (n - i)) pre.length t p = (p.1 || decide (2 ≤ pre.length), p.2.set t.toNat true) := by unfold upd1; rw [hc]; rfl
        rw [ifB_true, hu, ← ih _ (by simp [hp])]
        cases hp1 : p.1 with
        | true => rw [ifB_true]; simp
        | false =>
          rw [ifB_false]
          have : decide (((pre.length : Nat) : Int) ≥ 2) = decide (2 ≤ pre.length) := decide_eq_decide.2 (by omega)
          simp [this]
      | false =>
        have hu : upd1 (canRow N A (n - i)) pre.length t p = p := by unfold upd1; rw [hc]; rfl
        rw [ifB_false, hu]; exact ih p hp
    · have hc : trg (canRow N A (n - i)) t = false := by unfold trg; rw [decide_eq_false h0]; rfl
      have hu : upd1 (canRow N A (n - i)) pre.length t p = p := by unfold upd1; rw [hc]; rfl
      rw [ifB_not _ _ (decide_eq_false h0), hwp, hu]; exact ih p hp
theorem ref_l30 (h : V L S N A) (hL : L = 4) {n i : Nat} (hi : 1 ≤ i ∧ i ≤ n) (hn : n ≤ 60) {out : List Int} : ∀ (rs : LLI) (bs : LB) (Np : LLI) (bp : LB) (p : Bool × LB), N = Np ++ rs → bs.length = rs.length → bp.length = Np.length → p.2.length = N.length →
    ancepsref24_Ends.l30 (n : Int) (i : Int) p.1 ((Np.length : Nat) : Int) L S N A (tab N A (n + 1)) out (bp ++ bs) p.2 =
      ancepsref24_Ends.l30 (n : Int) (i : Int) (allU (canRow N A (n - i)) bs rs p).1 ((N.length : Nat) : Int) L S N A (tab N A (n + 1)) out (bp ++ bs) (allU (canRow N A (n - i)) bs rs p).2
  | [], [], Np, bp, p, e, h1, h2, hp => by
    have : N.length = Np.length := by rw [e]; simp
    rw [this]; simp [allU]
  | [], _ :: _, _, _, _, _, h1, _, _ => by simp at h1
  | _ :: _, [], _, _, _, _, h1, _, _ => by simp at h1
  | r :: rs, b :: bs, Np, bp, p, e, h1, h2, hp => by
    have hn4 := h.n
    have hlen : N.length = Np.length + (rs.length + 1) := by rw [e]; simp
    have hr : N[Np.length]? = some r := by
      have : (Np ++ r :: rs)[Np.length]? = some r := by simp
      rwa [← e] at this
    have hb : (bp ++ b :: bs)[Np.length]? = some b := by rw [← h2]; simp
    have hpl2 : (Np ++ [r]).length = Np.length + 1 := by simp
    have ih := fun p hp => ref_l30 h hL hi hn (out := out) rs bs (Np ++ [r]) (bp ++ [b]) p (by rw [e]; simp) (by simpa using h1) (by simp [h2]) hp
    rw [← app_at] at ih
    rw [hpl2] at ih
    rw [ancepsref24_Ends.l30_eq, ifB_of _ _ (decide_eq_true (by omega))]
    cases b with
    | false =>
      have hxn : ixAt (bp ++ false :: bs) ((Np.length : Nat) : Int) = some false := by rw [ixAt_nat]; exact hb
      rw [ancepsref24_Ends.l33_eq, ifB_of _ _ (by rfl), hxn, bindD_some, bindD_some, ifB_false, w64_succ (by omega)]
      exact ih p hp
    | true =>
      have h33 := ref_l33 h hL hi hn (out := out) hr hb r [] p rfl hp
      simp only [List.length_nil] at h33
      rw [show ((0 : Nat) : Int) = 0 from rfl] at h33
      rw [h33]
      exact ih _ (by rw [rowU_len]; exact hp)
theorem ref_l26 (h : V L S N A) (hL : L = 4) {n : Nat} (hn : n ≤ 60) : ∀ (f i : Nat) (now : LB) (out : List Int), i + f = n + 1 → 1 ≤ i → now.length = N.length → out.length ≤ i →
    ancepsref24_Ends.l26 (n : Int) (i : Int) L S N A (tab N A (n + 1)) out now = some (res N A n f i now out, ((0 : Int), ()))
  | 0, i, now, out, e, h1, h2, ho => by rw [ancepsref24_Ends.l26_eq, ifB_not _ _ (decide_eq_false (by omega))]; rfl
  | f + 1, i, now, out, e, h1, h2, ho => by
    have hn4 := h.n
    have h30 := ref_l30 h hL (n := n) (i := i) ⟨h1, by omega⟩ hn (out := out) N now [] [] (false, List.replicate N.length false) rfl h2 rfl (by simp)
    simp only [List.nil_append, List.length_nil] at h30
    rw [show ((0 : Nat) : Int) = 0 from rfl] at h30
    have ih := fun out ho => ref_l26 h hL hn f (i + 1) (allU (canRow N A (n - i)) now N (false, List.replicate N.length false)).2 out (by omega) (by omega) (by rw [allU_len]; simp) ho
    rw [ancepsref24_Ends.l26_eq, ifB_of _ _ (decide_eq_true (by omega)), mkLen_ok (by omega), bindD_some, h30, ancepsref24_Ends.l30_eq, ifB_not _ _ (decide_eq_false (by omega)), w64_succ (by omega)]
    unfold res
    cases (allU (canRow N A (n - i)) now N (false, List.replicate N.length false)).1 with
    | true => rw [ifB_true, grow_ok (by simp; omega), bindD_some, cond_true]; exact ih _ (by simp; omega)
    | false => rw [ifB_false, cond_false]; exact ih _ (by omega)

/-- what both return -/
def endsV (S : Int) (N : LLI) (A : LB) (n : Nat) : List Int × (Int × Unit) :=
  bif trg (canRow N A n) S then (res N A n n 1 ((List.replicate N.length false).set S.toNat true) [], ((0 : Int), ())) else ([], ((10 : Int), ()))
def endsW (L S : Int) (N : LLI) (A : LB) (n : Int) : List Int × (Int × Unit) :=
  bif ok L S N A && (L == 4) then bif decide (n < 0) || decide (n > 60) then ([], ((6 : Int), ())) else endsV S N A n.toNat else ([], ((1 : Int), ()))
theorem trg_neg {C : LB} {t : Int} (h : t < 0) : trg C t = false := by unfold trg; rw [decide_eq_false (by omega)]; rfl

theorem ends_f (L S : Int) (N : LLI) (A : LB) (n : Int) : compile_Ends.f L S N A n = some (endsW L S N A n) := by
  rw [compile_Ends.f_eq, compile_given.f_eq, valid_f, bindD_some]
  unfold endsW
  cases ho : ok L S N A with
  | false => rw [ifB_not _ _ (by rfl)]; rfl
  | true =>
    have h := V_of ho
    rw [ifB_of _ _ (by rfl), bindD_some]
    by_cases hL : L = 4
    · rw [ifB_not _ _ (by simp [hL])]
      simp only [hL, beq_self_eq_true, Bool.and_self, cond_true]
      by_cases h1 : n < 0
      · rw [ifB_of _ _ (decide_eq_true h1), decide_eq_true h1]; rfl
      · rw [ifB_not _ _ (decide_eq_false h1), decide_eq_false h1]
        by_cases h2 : n > 60
        · rw [ifB_of _ _ (decide_eq_true h2), decide_eq_true h2]; rfl
        · rw [ifB_not _ _ (decide_eq_false h2), decide_eq_false h2]
          obtain ⟨m, rfl⟩ : ∃ m : Nat, n = (m : Int) := ⟨n.toNat, by omega⟩
          have hn4 := h.n
          have ht := table_l7 h (n := m) (by omega) m 0 (by omega)
          rw [show ((0 : Nat) : Int) = 0 from rfl] at ht
          simp only [Bool.or_self, cond_false, Int.toNat_natCast]
          rw [show A :: ([] : List LB) = tab N A (0 + 1) from rfl]
          subst hL
          rw [ht, compile_Ends.l7_eq, ifB_not _ _ (decide_eq_false (by omega))]
          unfold endsV
          by_cases h3 : S < 0
          · rw [ifB_of _ _ (decide_eq_true h3), trg_neg h3]; rfl
          · rw [ifB_not _ _ (decide_eq_false h3), tab_at (by omega), bindD_some, bindD_some, get_row h (by omega) h.s.2, bindD_some]
            cases trg (canRow N A m) S with
            | false => rfl
            | true =>
              obtain ⟨b, hb⟩ := get_any (xs := List.replicate N.length false) (t := S) (by omega) (by simp; exact h.s.2)
              rw [ifB_not _ _ (by rfl), mkLen_ok (by omega), bindD_some, hb, bindD_some, bindD_some, set_int]
              have := walk_l23 h (n := m) (by omega) m 1 ((List.replicate N.length false).set S.toNat true) [] (by omega) (by omega) (by simp) (by simp)
              rw [show ((1 : Nat) : Int) = 1 from rfl] at this
              rw [this]; rfl
    · rw [ifB_of _ _ (by simp [hL])]
      have : (L == 4) = false := beq_eq_false_iff_ne.2 hL
      rw [this]; rfl
theorem rends_f (L S : Int) (N : LLI) (A : LB) (n : Int) : ancepsref24_Ends.f L S N A n = some (endsW L S N A n) := by
  rw [ancepsref24_Ends.f_eq, ref_valid_f, bindD_some]
  unfold endsW
  cases ho : ok L S N A with
  | false => rw [ifB_of _ _ (by rfl)]; rfl
  | true =>
    have h := V_of ho
    rw [ifB_not _ _ (by rfl)]
    by_cases hL : L = 4
    · rw [ifB_not _ _ (by simp [hL])]
      simp only [hL, beq_self_eq_true, Bool.and_self, cond_true]
      by_cases h1 : n < 0
      · rw [ifB_of _ _ (decide_eq_true h1), decide_eq_true h1]; rfl
      · rw [ifB_not _ _ (decide_eq_false h1), decide_eq_false h1]
        by_cases h2 : n > 60
        · rw [ifB_of _ _ (decide_eq_true h2), decide_eq_true h2]; rfl
        · rw [ifB_not _ _ (decide_eq_false h2), decide_eq_false h2]
          obtain ⟨m, rfl⟩ : ∃ m : Nat, n = (m : Int) := ⟨n.toNat, by omega⟩
          have hn4 := h.n
          have ht := reft_l7 h hL (n := m) (by omega) (m + 1) 0 (by omega)
          rw [show ((0 : Nat) : Int) = 0 from rfl] at ht
          simp only [Bool.or_self, cond_false, Int.toNat_natCast]
          rw [w64_succ (by omega), mkLen_ok (by omega), bindD_some]
          rw [show List.replicate (m + 1) ([] : LB) = tab N A 0 ++ List.replicate (m + 1) [] from rfl]
          subst hL
          rw [ht, ancepsref24_Ends.l7_eq, ifB_not _ _ (decide_eq_false (by omega))]
          unfold endsV
          by_cases h3 : S < 0
          · rw [ifB_of _ _ (decide_eq_true h3), trg_neg h3]; rfl
          · rw [ifB_not _ _ (decide_eq_false h3)]
            simp only [tab_at (N := N) (A := A) (k := m + 1) (j := m) (by omega), bindD_some, get_row h (k := m) (t := S) (by omega) h.s.2]
            cases trg (canRow N A m) S with
            | false => rfl
            | true =>
              obtain ⟨b, hb⟩ := get_any (xs := List.replicate N.length false) (t := S) (by omega) (by simp; exact h.s.2)
              rw [ifB_not _ _ (by rfl), mkLen_ok (by omega), bindD_some, hb, bindD_some, bindD_some, set_int]
              have := ref_l26 h rfl (n := m) (by omega) m 1 ((List.replicate N.length false).set S.toNat true) [] (by omega) (by omega) (by simp) (by simp)
              rw [show ((1 : Nat) : Int) = 1 from rfl] at this
              rw [this]; rfl
    · rw [ifB_of _ _ (by simp [hL])]
      have : (L == 4) = false := beq_eq_false_iff_ne.2 hL
      rw [this]; rfl
end
end Go.Proofs.K27
