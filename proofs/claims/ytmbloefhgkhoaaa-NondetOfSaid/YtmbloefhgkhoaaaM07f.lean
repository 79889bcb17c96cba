/- Plain words for the chapter of automata: how many words of a length are accepted. -/
import Derived.Test.YtmbloefhgkhoaaaM07e
set_option linter.unusedVariables false
set_option linter.unusedSimpArgs false
namespace Go.Proofs.C07.M
open Go Go.Proofs.R
set_option linter.unusedVariables false
set_option linter.unusedSimpArgs false
set_option maxRecDepth 100000

/-- how many words of a length are accepted from a state -/
def cnt (L : Int) (N : LLI) (A : LB) : Nat → Int → Nat
  | 0, s => bif acc A s then 1 else 0
  | k + 1, s => if s < 0 then 0 else ((List.range L.toNat).map fun c => cnt L N A k (stp N s c)).sum

def capI (x : Int) : Int := if (4611686018427387905 : Int) < x then (4611686018427387905 : Int) else x
theorem capI_le (x : Int) : capI x ≤ (4611686018427387905 : Int) := by unfold capI; split <;> omega
theorem capI_nn {x : Int} (h : 0 ≤ x) : 0 ≤ capI x := by unfold capI; split <;> omega
theorem capI_add {x y : Int} (hx : 0 ≤ x) (hy : 0 ≤ y) : capI (capI x + capI y) = capI (x + y) := by
  unfold capI
  by_cases h1 : (4611686018427387905 : Int) < x
  · rw [if_pos h1]
    by_cases h2 : (4611686018427387905 : Int) < y
    · rw [if_pos h2, if_pos (by omega), if_pos (by omega)]
    · rw [if_neg h2, if_pos (by omega : (4611686018427387905 : Int) < x + y)]
      by_cases h3 : (4611686018427387905 : Int) < (4611686018427387905 : Int) + y
      · rw [if_pos h3]
      · rw [if_neg h3]; omega
  · rw [if_neg h1]
    by_cases h2 : (4611686018427387905 : Int) < y
    · rw [if_pos h2, if_pos (by omega : (4611686018427387905 : Int) < x + y)]
      by_cases h3 : (4611686018427387905 : Int) < x + (4611686018427387905 : Int)
      · rw [if_pos h3]
      · rw [if_neg h3]; omega
    · rw [if_neg h2]
theorem capI_zero : capI 0 = 0 := rfl

def addW (ws : List Int) (a t : Int) : Int := if t < 0 then a else capI (a + (ws[t.toNat]?.getD 0))
def newW (ws : List Int) (N : LLI) : List Int := N.map fun r => r.foldl (addW ws) 0
def ways (N : LLI) (A : LB) : Nat → List Int
  | 0 => A.map fun b => bif b then 1 else 0
  | k + 1 => newW (ways N A k) N

theorem wu64 {n : Int} (h0 : 0 ≤ n) (h1 : n < 18446744073709551616) : IntKind.u64.wrap n = n := by
  have : IntKind.u64.wrap n = n % 18446744073709551616 := by simp [IntKind.wrap, IntKind.bits, IntKind.signed]
  rw [this]; omega

section
variable {L S : Int} {N : LLI} {A : LB}

/-- the ways are right -/
structure Ways (N : LLI) (ws : List Int) : Prop where
  len : ws.length = N.length
  rng : ∀ x ∈ ws, 0 ≤ x ∧ x ≤ (4611686018427387905 : Int)

theorem addW_rng {ws : List Int} (h : ∀ x ∈ ws, 0 ≤ x ∧ x ≤ (4611686018427387905 : Int)) {a t : Int} (ha : 0 ≤ a ∧ a ≤ (4611686018427387905 : Int)) : 0 ≤ addW ws a t ∧ addW ws a t ≤ (4611686018427387905 : Int) := by
  unfold addW
  split
  · exact ha
  · refine ⟨capI_nn ?_, capI_le _⟩
    cases hw : ws[t.toNat]? with
    | none => simp; omega
    | some x => have := (h x (List.mem_of_getElem? hw)).1; simp; omega
theorem fold_rng {ws : List Int} (h : ∀ x ∈ ws, 0 ≤ x ∧ x ≤ (4611686018427387905 : Int)) : ∀ (r : List Int) {a : Int}, 0 ≤ a ∧ a ≤ (4611686018427387905 : Int) → 0 ≤ r.foldl (addW ws) a ∧ r.foldl (addW ws) a ≤ (4611686018427387905 : Int)
  | [], a, ha => ha
  | t :: r, a, ha => fold_rng h r (addW_rng h ha)
theorem ways_ok (h : V L S N A) : ∀ k, Ways N (ways N A k)
  | 0 => ⟨by simp [ways, h.a], by
    intro x hx
    simp only [ways, List.mem_map] at hx
    obtain ⟨b, _, rfl⟩ := hx
    cases b <;> simp⟩
  | k + 1 => ⟨by simp [ways, newW], by
    intro x hx
    simp only [ways, newW, List.mem_map] at hx
    obtain ⟨r, _, rfl⟩ := hx
    exact fold_rng (ways_ok h k).rng r (by omega)⟩

theorem set_at {p : List Int} {x y : Int} {s : List Int} : setRow (p ++ x :: s) (p.length : Int) y = p ++ y :: s := by
  unfold setRow; simp

/-! the numbers -/
theorem cnt_neg {k : Nat} {s : Int} (h : s < 0) : cnt L N A k s = 0 := by
  cases k with
  | zero => unfold cnt acc; rw [if_neg (by omega)]; rfl
  | succ k => unfold cnt; rw [if_pos h]

theorem row_sum (h : V L S N A) {s : Nat} {r : List Int} (hr : N[s]? = some r) (k : Nat) : cnt L N A (k + 1) (s : Int) = (r.map (cnt L N A k)).sum := by
  have hlt := (List.getElem?_eq_some_iff.1 hr).1
  have hrow := h.row r (List.mem_of_getElem? hr)
  have hl1 := h.l1
  conv => lhs; unfold cnt
  rw [if_neg (by omega)]
  congr 1
  refine List.ext_getElem? fun i => ?_
  rw [List.getElem?_map, List.getElem?_map]
  by_cases hi : i < r.length
  · have h1 : (List.range L.toNat)[i]? = some i := List.getElem?_range (by omega)
    have h2 : r[i]? = some r[i] := List.getElem?_eq_getElem hi
    have h3 : stp N (s : Int) i = r[i] := by
      unfold stp
      rw [if_neg (by omega), Int.toNat_natCast, hr]
      simp [h2]
    rw [h1, h2]
    simp only [Option.map_some, h3]
  · rw [List.getElem?_eq_none (by simp; omega), List.getElem?_eq_none (by omega)]; rfl

theorem fold_sum (h : V L S N A) {k : Nat} {ws : List Int} (hw : ∀ t : Nat, t < N.length → ws[t]? = some (capI (cnt L N A k (t : Int) : Int))) : ∀ (r : List Int), (∀ t ∈ r, -1 ≤ t ∧ t < N.length) → ∀ a : Nat, r.foldl (addW ws) (capI (a : Int)) = capI ((a + (r.map (cnt L N A k)).sum : Nat) : Int)
  | [], _, a => by simp
  | t :: r, ht, a => by
    have h1 := ht t List.mem_cons_self
    have h2 : addW ws (capI (a : Int)) t = capI ((a + cnt L N A k t : Nat) : Int) := by
      unfold addW
      by_cases h0 : t < 0
      · rw [if_pos h0, cnt_neg h0, Nat.add_zero]
      · rw [if_neg h0, hw t.toNat (by omega)]
        have e : ((t.toNat : Nat) : Int) = t := by omega
        simp only [Option.getD_some, e]
        rw [capI_add (by omega) (by omega)]
        congr 1
    rw [List.foldl_cons, h2, fold_sum h hw r (fun x hx => ht x (List.mem_cons_of_mem _ hx))]
    simp [Nat.add_assoc]

theorem ways_at (h : V L S N A) : ∀ (k s : Nat), s < N.length → (ways N A k)[s]? = some (capI (cnt L N A k (s : Int) : Int))
  | 0, s, hs => by
    have hb : A[s]? = some (A[s]'(by rw [h.a]; exact hs)) := List.getElem?_eq_getElem _
    unfold ways
    rw [List.getElem?_map, hb]
    unfold cnt acc
    rw [if_pos (by omega), Int.toNat_natCast, hb]
    simp only [Option.map_some, Option.getD_some, Option.some.injEq]
    cases A[s]'(by rw [h.a]; exact hs) <;> rfl
  | k + 1, s, hs => by
    have hr : N[s]? = some N[s] := List.getElem?_eq_getElem hs
    have := fold_sum h (fun t ht => ways_at h k t ht) N[s] (h.row _ (List.getElem_mem hs)).2 0
    unfold ways newW
    rw [List.getElem?_map, hr, row_sum h hr]
    simp only [Option.map_some, Option.some.injEq]
    rw [Nat.zero_add] at this
    rw [← this]; rfl

/-- what is returned for a length -/
def countR (c : Nat) : Int × (Int × Unit) := if (4611686018427387904 : Int) < (c : Int) then (0, (3, ())) else ((c : Int), (0, ()))
theorem sum_zero : ∀ {l : List Nat}, (∀ x ∈ l, x = 0) → l.sum = 0
  | [], _ => rfl
  | x :: l, h => by rw [List.sum_cons, h x List.mem_cons_self, sum_zero fun y hy => h y (List.mem_cons_of_mem _ hy)]
/-- where something is counted there is a word -/
theorem cnt_word (h : V L S N A) : ∀ (k : Nat) (s : Int), -1 ≤ s ∧ s < N.length → cnt L N A k s ≠ 0 → ∃ w : List Nat, w.length = k ∧ Wd L w ∧ acc A (run N s w) = true
  | 0, s, hs, hc => by
    refine ⟨[], rfl, by simp [Wd], ?_⟩
    unfold cnt at hc
    cases ha : acc A s with
    | true => exact ha
    | false => rw [ha] at hc; exact (hc rfl).elim
  | k + 1, s, hs, hc => by
    unfold cnt at hc
    split at hc
    · exact (hc rfl).elim
    · have hl1 := h.l1
      have : ∃ c, c < L.toNat ∧ cnt L N A k (stp N s c) ≠ 0 := by
        refine Classical.byContradiction fun hn => hc ?_
        refine sum_zero fun x hx => ?_
        simp only [List.mem_map, List.mem_range] at hx
        obtain ⟨c, hcl, rfl⟩ := hx
        exact Classical.byContradiction fun hne => hn ⟨c, hcl, hne⟩
      obtain ⟨c, hcl, hcc⟩ := this
      obtain ⟨w, w1, w2, w3⟩ := cnt_word h k _ (stp_get h hs (by omega)).1 hcc
      refine ⟨c :: w, by simp [w1], ?_, w3⟩
      intro x hx
      rcases List.mem_cons.1 hx with rfl | hx
      · omega
      · exact w2 x hx

/-! ### equal lists -/
theorem eq_l4 : ∀ (suf pre : List Int), (pre ++ suf).length < 4611686018427387904 → slices_Equal_int_int.l4 (pre ++ suf) (pre ++ suf) ((pre ++ suf).length : Nat) (pre.length : Nat) = some (true, ())
  | [], pre, h => by rw [slices_Equal_int_int.l4_eq, ifB_not _ _ (lt_end pre)]
  | x :: suf, pre, h => by
    have := eq_l4 suf (pre ++ [x]) (by rw [← app_at]; exact h)
    rw [← app_at] at this
    rw [slices_Equal_int_int.l4_eq, ifB_of _ _ (lt_at pre x suf), ixAt_at, bindD_some, bindD_some, ifB_not _ _ (by simp), w_at h]
    exact this
theorem eq_f (l : List Int) (h : l.length < 4611686018427387904) : slices_Equal_int_int.f l l = some (true, ()) := by
  rw [slices_Equal_int_int.f_eq, ifB_not _ _ (by simp)]
  exact eq_l4 l [] h

/-! ### Shortest -/
theorem none_ok (h : V L S N A) : ok L (-1) [] [] = true := by
  have h1 := h.l1; have h8 := h.l8
  simp [ok, headOk, h1, h8]
theorem acc_nil (s : Int) : acc [] s = false := by unfold acc; split <;> simp

end
end Go.Proofs.C07.M
