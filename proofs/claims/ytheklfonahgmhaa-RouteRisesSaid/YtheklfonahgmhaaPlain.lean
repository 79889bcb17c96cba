/- Cheapest ways in a graph whose arcs ascend: what the potentials are. -/
import Derived.Test.YtheklfonahgmhaaP10a
import Derived.Test.YtheklfonahgmhaaC10B
import Derived.Test.YtheklfonahgmhaaMachine4
set_option linter.unusedVariables false
set_option linter.unusedSimpArgs false
section
namespace Go.Proofs.R
open Go
set_option linter.unusedVariables false
def gi (p : List Int) (i : Int) : Int := p[i.toNat]?.getD 0
def ga (arcs : List Arc) (i : Int) : Arc := arcs[i.toNat]?.getD (0, 0, 0)
def idx (arcs : List Arc) : List Int := (List.range arcs.length).map fun (i : Nat) => (i : Int)
def arcsFrom (arcs : List Arc) (v : Int) : List Int := (idx arcs).filter fun i => (ga arcs i).1 == v
abbrev W64 (x : Int) : Int := IntKind.i64.wrap x
structure VG (n : Int) (arcs : List Arc) : Prop where
 pos : 1 ≤ n
 most : n ≤ 2000
 len : arcs.length ≤ 6000
 arc : ∀ a ∈ arcs, 0 ≤ a.1 ∧ a.1 < a.2.1 ∧ a.2.1 < n ∧ 0 ≤ a.2.2 ∧ a.2.2 ≤ 1000000
theorem ixAt_gi {p : List Int} {i : Int} (h0 : 0 ≤ i) (h1 : i < p.length) : ixAt p i = some (gi p i) := by
 unfold ixAt gi
 rw [if_pos h0, List.getElem?_eq_getElem (by omega)]; rfl
theorem ixAt_ga {arcs : List Arc} {i : Int} (h0 : 0 ≤ i) (h1 : i < arcs.length) : ixAt arcs i = some (ga arcs i) := by
 unfold ixAt ga
 rw [if_pos h0, List.getElem?_eq_getElem (by omega)]; rfl
theorem ga_mem {arcs : List Arc} {i : Int} (h0 : 0 ≤ i) (h1 : i < arcs.length) : ga arcs i ∈ arcs := by
 unfold ga
 rw [List.getElem?_eq_getElem (by omega)]
 exact List.getElem_mem _
theorem mem_idx {arcs : List Arc} {i : Int} : i ∈ idx arcs ↔ 0 ≤ i ∧ i < arcs.length := by
 unfold idx
 rw [List.mem_map]
 constructor
 ·rintro ⟨k, h, rfl⟩; rw [List.mem_range] at h; omega
 ·rintro ⟨h0, h1⟩; exact ⟨i.toNat, by rw [List.mem_range]; omega, by omega⟩
theorem mem_from {arcs : List Arc} {v i : Int} : i ∈ arcsFrom arcs v ↔ 0 ≤ i ∧ i < arcs.length ∧ (ga arcs i).1 = v := by
 unfold arcsFrom
 rw [List.mem_filter, mem_idx, beq_iff_eq, and_assoc]
theorem gi_set {p : List Int} {v u x : Int} (hv : 0 ≤ v) (hu : 0 ≤ u) : gi (setRow p v x) u = if u = v ∧ v < p.length then x else gi p u := by
 unfold gi setRow
 rw [List.getElem?_set]
 by_cases h : v.toNat = u.toNat
 ·have : u = v := by omega
  subst this
  by_cases h2 : u < p.length
  ·rw [if_pos rfl, if_pos (by omega), if_pos ⟨rfl, h2⟩]; rfl
  ·rw [if_pos rfl, if_neg (by omega), if_neg (by omega), List.getElem?_eq_none (by omega)]
 ·rw [if_neg h, if_neg (by rintro ⟨rfl, _⟩; exact h rfl)]
theorem len_set {p : List Int} {v x : Int} : (setRow p v x).length = p.length := by unfold setRow; simp
def relaxV (arcs : List Arc) (out : List Int) (i : Int) : List Int :=
 if gi out (ga arcs i).2.1 ≥ 0 ∧ (gi out (ga arcs i).1 < 0 ∨ W64 ((ga arcs i).2.2 + gi out (ga arcs i).2.1) < gi out (ga arcs i).1) then setRow out (ga arcs i).1 (W64 ((ga arcs i).2.2 + gi out (ga arcs i).2.1)) else out
def r1 (arcs : List Arc) (p : List Int) (cur : Int) (i : Int) : Int :=
 if gi p (ga arcs i).2.1 ≥ 0 ∧ (cur < 0 ∨ W64 ((ga arcs i).2.2 + gi p (ga arcs i).2.1) < cur) then W64 ((ga arcs i).2.2 + gi p (ga arcs i).2.1) else cur
theorem relaxV_len (arcs : List Arc) (out : List Int) (i : Int) : (relaxV arcs out i).length = out.length := by
 unfold relaxV; split
 ·exact len_set
 ·rfl
theorem relaxs_len (arcs : List Arc) : ∀ (l : List Int) (out : List Int), (l.foldl (relaxV arcs) out).length = out.length
 | [], _ => rfl
 | i :: l, out => by rw [List.foldl_cons, relaxs_len arcs l, relaxV_len]
theorem r1_congr {arcs : List Arc} {p q : List Int} {i : Int} (h : gi p (ga arcs i).2.1 = gi q (ga arcs i).2.1) (cur : Int) : r1 arcs p cur i = r1 arcs q cur i := by unfold r1; rw [h]
theorem r1s_congr {arcs : List Arc} {p q : List Int} : ∀ (l : List Int), (∀ i ∈ l, gi p (ga arcs i).2.1 = gi q (ga arcs i).2.1) → ∀ cur, l.foldl (r1 arcs p) cur = l.foldl (r1 arcs q) cur
 | [], _, _ => rfl
 | i :: l, h, cur => by
  rw [List.foldl_cons, List.foldl_cons, r1_congr (h i List.mem_cons_self), r1s_congr l fun j hj => h j (List.mem_cons_of_mem _ hj)]
theorem node_fold {arcs : List Arc} {n v : Int} (hg : VG n arcs) (hv : 0 ≤ v) (hvn : v < n) : ∀ (l : List Int), (∀ i ∈ l, 0 ≤ i ∧ i < arcs.length ∧ (ga arcs i).1 = v) → ∀ (out : List Int), out.length = n →
  (∀ u, 0 ≤ u → u ≠ v → gi (l.foldl (relaxV arcs) out) u = gi out u) ∧ gi (l.foldl (relaxV arcs) out) v = l.foldl (r1 arcs out) (gi out v)
 | [], _, out, _ => ⟨fun _ _ _ => rfl, rfl⟩
 | i :: l, h, out, ho => by
  obtain ⟨h0, h1, h2⟩ := h i List.mem_cons_self
  have ha := hg.arc _ (ga_mem h0 h1)
  rw [List.foldl_cons, List.foldl_cons]
  obtain ⟨h3, h4⟩ := node_fold hg hv hvn l (fun j hj => h j (List.mem_cons_of_mem _ hj)) (relaxV arcs out i) (by rw [relaxV_len]; exact ho)
  have h5 : ∀ u, 0 ≤ u → u ≠ v → gi (relaxV arcs out i) u = gi out u := by
   intro u hu hne
   unfold relaxV
   split
   ·rw [h2, gi_set hv hu, if_neg (by rintro ⟨rfl, _⟩; exact hne rfl)]
   ·rfl
  have h6 : gi (relaxV arcs out i) v = r1 arcs out (gi out v) i := by
   unfold relaxV r1
   rw [h2]
   split
   ·rw [gi_set hv hv, if_pos ⟨rfl, by omega⟩]
   ·rfl
  refine ⟨fun u hu hne => (h3 u hu hne).trans (h5 u hu hne), ?_⟩
  rw [h4, h6]
  refine r1s_congr l (fun j hj => ?_) _
  obtain ⟨j0, j1, j2⟩ := h j (List.mem_cons_of_mem _ hj)
  have hb := hg.arc _ (ga_mem j0 j1)
  exact h5 _ (by omega) (by omega)
def init0 (n v : Int) : Int := if v = n - 1 then 0 else -1
structure PotFrom (n : Int) (arcs : List Arc) (m : Int) (p : List Int) : Prop where
 len : p.length = n
 val : ∀ v, m ≤ v → 0 ≤ v → v < n → gi p v = (arcsFrom arcs v).foldl (r1 arcs p) (init0 n v)
theorem PotFrom.step {n : Int} {arcs : List Arc} (hg : VG n arcs) {v : Int} {p : List Int} (h : PotFrom n arcs (v + 1) p) (hv : 0 ≤ v) (hvn : v < n) {q : List Int} (hq : q.length = n) (h1 : ∀ u, v < u → u < n → gi q u = gi p u) (h2 : gi q v = init0 n v) :
  PotFrom n arcs v ((arcsFrom arcs v).foldl (relaxV arcs) q) ∧ ∀ u, 0 ≤ u → u ≠ v → gi ((arcsFrom arcs v).foldl (relaxV arcs) q) u = gi q u := by
 obtain ⟨h3, h4⟩ := node_fold hg hv hvn (arcsFrom arcs v) (fun i hi => mem_from.1 hi) q hq
 have hto : ∀ (u : Int) (i : Int), v ≤ u → i ∈ arcsFrom arcs u → v < (ga arcs i).2.1 ∧ (ga arcs i).2.1 < n := by
  intro u i hu hi
  obtain ⟨i0, i1, i2⟩ := mem_from.1 hi
  have := hg.arc _ (ga_mem i0 i1)
  omega
 refine ⟨⟨by rw [relaxs_len]; exact hq, ?_⟩, h3⟩
 intro u hu hu0 hun
 by_cases he : u = v
 ·subst he
  rw [h4, h2]
  refine r1s_congr _ (fun i hi => ?_) _
  have := hto u i (Int.le_refl _) hi
  exact (h3 _ (by omega) (by omega)).symm
 ·rw [h3 u hu0 he, h1 u (by omega) hun, h.val u (by omega) hu0 hun]
  refine r1s_congr _ (fun i hi => ?_) _
  have := hto u i hu hi
  rw [h3 _ (by omega) (by omega), h1 _ (by omega) (by omega)]
end Go.Proofs.R
end
section
namespace Go.Proofs.R
open Go
theorem loop_st {α β σ : Type} (P : σ → Prop) (xs : List α) (L : σ → Int → Option β) (g : σ → List α → Option β) (h0 : ∀ s, P s → L s (xs.length : Nat) = g s [])
  (hs : ∀ s (i : Nat) (x : α), P s → xs[i]? = some x → (∀ s', P s' → L s' ((i + 1 : Nat) : Int) = g s' (xs.drop (i + 1))) → L s (i : Int) = g s (x :: xs.drop (i + 1))) : ∀ s, P s → L s 0 = g s xs := by
 have key : ∀ (d i : Nat), xs.length - i = d → i ≤ xs.length → ∀ s, P s → L s (i : Int) = g s (xs.drop i) := by
  intro d
  induction d with
  | zero =>
   intro i hd hi s hp
   have : i = xs.length := by omega
   subst this
   rw [List.drop_length]; exact h0 s hp
  | succ d ih =>
   intro i hd hi s hp
   have hil : i < xs.length := by omega
   rw [List.drop_eq_getElem_cons hil]
   exact hs s i _ hp (List.getElem?_eq_getElem hil) (fun s' hp' => ih (i + 1) (by omega) (by omega) s' hp')
 intro s hp
 have := key xs.length 0 (by omega) (by omega) s hp
 simpa using this
theorem ixN {α : Type} {xs : List α} {i : Nat} {x : α} (h : xs[i]? = some x) : ixAt xs (i : Int) = some x := by
 unfold ixAt; rw [if_pos (Int.natCast_nonneg i), Int.toNat_natCast]; exact h
theorem wrap_succ {i : Nat} (h : i < 4611686018427387904) : IntKind.i64.wrap ((i : Int) + 1) = ((i + 1 : Nat) : Int) := by rw [IntKind.wrap_i64]; omega
theorem wrap_in {x : Int} (h0 : -4611686018427387904 ≤ x) (h1 : x < 4611686018427387904) : IntKind.i64.wrap x = x := by rw [IntKind.wrap_i64]; omega
theorem ifB_pos {α : Type} {p : Prop} [Decidable p] (h : p) (x y : Option α) : ifB (decide p) x y = x := by unfold ifB; rw [decide_eq_true h]; rfl
theorem ifB_neg {α : Type} {p : Prop} [Decidable p] (h : ¬ p) (x y : Option α) : ifB (decide p) x y = y := by unfold ifB; rw [decide_eq_false h]; rfl
theorem ifP {α : Type} (p : Prop) [Decidable p] (x y : Option α) : ifB (decide p) x y = if p then x else y := by
 by_cases h : p
 ·rw [ifB_pos h, if_pos h]
 ·rw [ifB_neg h, if_neg h]
end Go.Proofs.R
namespace Go.Proofs.C10
open Go Go.Proofs.R
set_option linter.unusedVariables false
def errL (n : Int) : List Arc → Int
 | [] => 0
 | a :: l => if ¬ (a.1 ≥ 0 ∧ a.1 < n) then 6 else if ¬ (a.2.1 ≥ 0 ∧ a.2.1 < n) then 6 else if a.2.2 < 0 then 6 else if a.2.2 > 1000000 then 6 else if a.2.1 ≤ a.1 then 18 else errL n l
theorem errL_cons (n : Int) (a : Arc) (l : List Arc) : errL n (a :: l) = if ¬ (a.1 ≥ 0 ∧ a.1 < n) then 6 else if ¬ (a.2.1 ≥ 0 ∧ a.2.1 < n) then 6 else if a.2.2 < 0 then 6 else if a.2.2 > 1000000 then 6 else if a.2.1 ≤ a.1 then 18 else errL n l := rfl
def errV (n : Int) (arcs : List Arc) : Int := if n < 1 then 7 else if n > 2000 then 3 else if (arcs.length : Int) > 6000 then 3 else errL n arcs
theorem in_eq (i n : Int) (arcs : List Arc) : dag_Valid_1.f i n arcs = some (decide (i ≥ 0 ∧ i < n), ()) := by
 rw [dag_Valid_1.f_eq, ifP]
 by_cases h : i ≥ 0
 ·rw [if_pos h]; congr 2; simp [h]
 ·rw [if_neg h]; congr 2; simp [h]
theorem valid_eq (n : Int) (arcs : List Arc) : dag_Valid.f n arcs = some (errV n arcs, ()) := by
 rw [dag_Valid.f_eq]
 unfold errV
 simp only [ifP]
 by_cases q1 : n < 1
 ·rw [if_pos q1, if_pos q1]
 rw [if_neg q1, if_neg q1]
 by_cases q2 : n > 2000
 ·rw [if_pos q2, if_pos q2]
 rw [if_neg q2, if_neg q2]
 by_cases hl : (arcs.length : Int) > 6000
 ·rw [if_pos hl, if_pos hl]
 rw [if_neg hl, if_neg hl]
 refine loop_st (fun _ : Unit => True) arcs (fun _ i => dag_Valid.l7 arcs (arcs.length : Nat) i n arcs) (fun _ l => some (errL n l, ())) ?_ ?_ () trivial
 ·intro _ _; rw [dag_Valid.l7_eq, ifB_neg (by omega)]; rfl
 ·intro _ i a _ hi ih
  have hlt := (List.getElem?_eq_some_iff.1 hi).1
  show dag_Valid.l7 arcs (arcs.length : Nat) (i : Int) n arcs = _
  rw [dag_Valid.l7_eq, ifB_pos (by omega), ixN hi, wrap_succ (by omega)]
  simp only [bindD, Option.bind_some, in_eq, ih () trivial, ifP]
  rw [errL_cons]
  by_cases h1 : a.1 ≥ 0 ∧ a.1 < n
  ·by_cases h2 : a.2.1 ≥ 0 ∧ a.2.1 < n
   ·simp only [h1, h2, and_self, decide_true, Bool.not_true, ifB, cond_false, not_true_eq_false, if_false]
    repeat' split
    all_goals first | rfl | omega
   ·simp only [h1, h2, and_self, decide_true, decide_false, Bool.not_true, Bool.not_false, ifB, cond_false, cond_true, not_true_eq_false, not_false_eq_true, if_false, if_true]
  ·simp only [h1, decide_false, Bool.not_false, ifB, cond_true, not_false_eq_true, if_true]
theorem errL_ok {n : Int} : ∀ {l : List Arc}, errL n l = 0 → ∀ a ∈ l, 0 ≤ a.1 ∧ a.1 < a.2.1 ∧ a.2.1 < n ∧ 0 ≤ a.2.2 ∧ a.2.2 ≤ 1000000
  | [], _, a, h => by cases h
  | b :: l, h, a, ha => by
    rw [errL_cons] at h
    repeat' split at h
    all_goals first
      | (exfalso; omega)
      | (rcases List.mem_cons.1 ha with rfl | ha
         · omega
         · exact errL_ok h a ha)
theorem vg_of {n : Int} {arcs : List Arc} (h : errV n arcs = 0) : VG n arcs := by
 unfold errV at h
 repeat' split at h
 all_goals first
  | (exfalso; omega)
  | exact ⟨by omega, by omega, by omega, errL_ok h⟩
end Go.Proofs.C10
end
section
namespace Go.Proofs.R
open Go
theorem loop_up {β σ : Type} (L : σ → Int → Option β) (S : Nat → σ) (len : Nat) (r : Option β) (h0 : L (S len) (len : Nat) = r) (hs : ∀ i, i < len → L (S i) (i : Int) = L (S (i + 1)) ((i + 1 : Nat) : Int)) : L (S 0) 0 = r := by
 have key : ∀ (d i : Nat), len - i = d → i ≤ len → L (S i) (i : Int) = r := by
  intro d
  induction d with
  | zero =>
   intro i hd hi
   have : i = len := by omega
   subst this; exact h0
  | succ d ih =>
   intro i hd hi
   rw [hs i (by omega)]
   exact ih (i + 1) (by omega) (by omega)
 exact key len 0 (by omega) (by omega)
theorem mkLen_nat {n : Int} (h0 : 0 ≤ n) (h1 : n ≤ 4294967296) : mkLen n n = some n.toNat := by
 unfold mkLen; rw [if_pos ⟨h0, Int.le_refl _, by unfold mostLen; omega⟩]
theorem set_fill {α : Type} (f : Nat → α) (z : α) (i m : Nat) (h : i < m) : setRow ((List.range i).map f ++ List.replicate (m - i) z) (i : Int) (f i) = (List.range (i + 1)).map f ++ List.replicate (m - (i + 1)) z := by
 unfold setRow
 rw [Int.toNat_natCast, List.set_append_right _ _ (by simp), List.range_succ, List.map_append]
 rw [show m - i = (m - (i + 1)) + 1 from by omega, List.replicate_succ]
 simp
end Go.Proofs.R
namespace Go.Proofs.C10
open Go Go.Proofs.R
set_option linter.unusedVariables false
theorem compare_eq (a b : Int) : cmp_Compare_int.f a b = some (cmpI a b, ()) := by
 rw [cmp_Compare_int.f_eq, cmp_isNaN_int.f_eq, cmp_isNaN_int.f_eq]
 unfold cmpI
 simp only [bindD, Option.bind_some, bne_self_eq_false, ifB, cond_false]
 by_cases h : a < b
 ·rw [if_pos h, decide_eq_true h]; rfl
 ·rw [if_neg h, decide_eq_false h]
  by_cases h2 : a > b
  ·rw [if_pos h2, decide_eq_true h2]; rfl
  ·rw [if_neg h2, decide_eq_false h2]; rfl
theorem fromN_eq {n : Int} {arcs : List Arc} (hg : VG n arcs) {i : Int} (h0 : 0 ≤ i) (h1 : i < arcs.length) : (fromN arcs i : Int) = (ga arcs i).1 := by
 have := hg.arc _ (ga_mem h0 h1)
 unfold fromN ga at *
 omega
def backV (n : Int) (arcs : List Arc) : List Int := buckets (fun i => n.toNat - 1 - fromN arcs i) (idx arcs) n.toNat
theorem backwards_eq {n : Int} {arcs : List Arc} (hg : VG n arcs) : route_backwards.f n arcs = some (backV n arcs, ()) := by
 have hlen := hg.len
 rw [route_backwards.f_eq, mkLen_nat (by omega) (by omega)]
 simp only [bindD, Option.bind_some, Int.toNat_natCast, List.length_replicate]
 refine loop_up (fun (s : List Int) i => route_backwards.l3 (arcs.length : Nat) i n arcs s) (fun i => (List.range i).map (fun (k : Nat) => (k : Int)) ++ List.replicate (arcs.length - i) 0) arcs.length _ ?_ ?_
 ·show route_backwards.l3 _ _ _ _ _ = _
  rw [route_backwards.l3_eq, ifB_neg (by omega)]
  simp only [Nat.sub_self, List.replicate_zero, List.append_nil]
  rw [grow_ok (by simp; omega)]
  simp only [bindD, Option.bind_some]
  rw [show (List.range arcs.length).map (fun (k : Nat) => (k : Int)) = idx arcs from rfl]
  rw [sort_desc (arcs := arcs) (n := n.toNat) (by have := hg.pos; omega) (fun a ha => by have := hg.arc a ha; omega)]
  ·rfl
  ·intro x hx y hy
   obtain ⟨x0, x1⟩ := mem_idx.1 hx
   obtain ⟨y0, y1⟩ := mem_idx.1 hy
   rw [route_backwards_1.f_eq, ixAt_ga x0 x1, ixAt_ga y0 y1]
   simp only [bindD, Option.bind_some, compare_eq, fromN_eq hg x0 x1, fromN_eq hg y0 y1]
 ·intro i hi
  show route_backwards.l3 _ _ _ _ _ = route_backwards.l3 _ _ _ _ _
  rw [route_backwards.l3_eq, ifB_pos (by omega)]
  have h1 : ∃ x, ixAt ((List.range i).map (fun (k : Nat) => (k : Int)) ++ List.replicate (arcs.length - i) 0) (i : Int) = some x := by
   unfold ixAt
   rw [if_pos (by omega), List.getElem?_eq_getElem (by simp; omega)]
   exact ⟨_, rfl⟩
  obtain ⟨x, h1⟩ := h1
  rw [h1]
  simp only [bindD, Option.bind_some]
  rw [set_fill (fun k => (k : Int)) 0 i arcs.length hi, wrap_succ (by omega)]
theorem relax_loop {n : Int} {arcs : List Arc} (hg : VG n arcs) (bs : List Int) (hb : ∀ i ∈ bs, 0 ≤ i ∧ i < arcs.length) (hl : bs.length < 4611686018427387904) : ∀ (out : List Int), out.length = n →
  route_costs.l9 (bs.length : Nat) 0 n arcs out bs = some (bs.foldl (relaxV arcs) out, ()) := by
 refine loop_st (fun out : List Int => (out.length : Int) = n) bs (fun out i => route_costs.l9 (bs.length : Nat) i n arcs out bs) (fun out l => some (l.foldl (relaxV arcs) out, ())) ?_ ?_
 ·intro out _
  show route_costs.l9 _ _ _ _ _ _ = _
  rw [route_costs.l9_eq, ifB_neg (by omega)]; rfl
 ·intro out i x ho hi ih
  have hlt := (List.getElem?_eq_some_iff.1 hi).1
  obtain ⟨x0, x1⟩ := hb x (List.mem_of_getElem? hi)
  have ha := hg.arc _ (ga_mem x0 x1)
  show route_costs.l9 _ _ _ _ _ _ = _
  rw [route_costs.l9_eq, ifB_pos (by omega), ixN hi]
  simp only [bindD, Option.bind_some]
  rw [ixAt_ga x0 x1]
  simp only [Option.bind_some]
  rw [ixAt_gi (by omega) (by omega)]
  simp only [Option.bind_some]
  rw [ixAt_gi (i := (ga arcs x).1) (by omega) (by omega)]
  simp only [Option.bind_some, wrap_succ (show i < 4611686018427387904 by omega), ifP]
  rw [List.foldl_cons, ← ih (relaxV arcs out x) (by rw [relaxV_len]; exact ho)]
  unfold relaxV
  by_cases h1 : gi out (ga arcs x).2.1 ≥ 0
  ·rw [if_pos h1]
   by_cases h2 : gi out (ga arcs x).1 < 0
   ·rw [if_pos h2, if_pos ⟨h1, .inl h2⟩]
   ·rw [if_neg h2]
    by_cases h3 : W64 ((ga arcs x).2.2 + gi out (ga arcs x).2.1) < gi out (ga arcs x).1
    ·rw [if_pos h3, if_pos ⟨h1, .inr h3⟩]
    ·rw [if_neg h3, if_neg (by rintro ⟨_, h4 | h4⟩ <;> (first | exact h2 h4 | exact h3 h4))]
  ·rw [if_neg h1, if_neg (by rintro ⟨h4, _⟩; exact h1 h4)]
theorem bucket_from {n : Int} {arcs : List Arc} (hg : VG n arcs) {m : Nat} (hm : (m : Int) < n) : ((idx arcs).filter fun i => (n.toNat - 1 - fromN arcs i) == m) = arcsFrom arcs (n - 1 - m) := by
 unfold arcsFrom
 apply List.filter_congr
 intro i hi
 obtain ⟨i0, i1⟩ := mem_idx.1 hi
 have h1 := fromN_eq hg i0 i1
 have h2 := hg.arc _ (ga_mem i0 i1)
 rw [Bool.eq_iff_iff, beq_iff_eq, beq_iff_eq]
 omega
theorem gi_rep {m : Nat} {c u : Int} (h0 : 0 ≤ u) (h1 : u < m) : gi (List.replicate m c) u = c := by
 unfold gi
 rw [List.getElem?_replicate, if_pos (by omega)]; rfl
def potV (n : Int) (arcs : List Arc) : List Int := (backV n arcs).foldl (relaxV arcs) (setRow (List.replicate n.toNat (-1)) (n - 1) 0)
theorem potV_ok {n : Int} {arcs : List Arc} (hg : VG n arcs) : PotFrom n arcs 0 (potV n arcs) := by
 have hp := hg.pos
 have key : ∀ m : Nat, (m : Int) ≤ n → PotFrom n arcs (n - m) ((buckets (fun i => n.toNat - 1 - fromN arcs i) (idx arcs) m).foldl (relaxV arcs) (setRow (List.replicate n.toNat (-1)) (n - 1) 0)) ∧
   ∀ u, 0 ≤ u → u < n - m → gi ((buckets (fun i => n.toNat - 1 - fromN arcs i) (idx arcs) m).foldl (relaxV arcs) (setRow (List.replicate n.toNat (-1)) (n - 1) 0)) u = init0 n u := by
  intro m
  induction m with
  | zero =>
   intro _
   have hl : ((setRow (List.replicate n.toNat (-1)) (n - 1) 0).length : Int) = n := by rw [len_set, List.length_replicate]; omega
   refine ⟨⟨by simpa [buckets] using hl, fun v h1 h2 h3 => by omega⟩, ?_⟩
   intro u h0 h1
   simp only [buckets, List.range_zero, List.flatMap_nil, List.foldl_nil]
   rw [gi_set (by omega) h0]
   unfold init0
   by_cases h2 : u = n - 1
   ·rw [if_pos ⟨h2, by rw [List.length_replicate]; omega⟩, if_pos h2]
   ·rw [if_neg (by rintro ⟨h3, _⟩; exact h2 h3), if_neg h2, gi_rep h0 (by omega)]
  | succ m ih =>
   intro hm
   obtain ⟨h1, h2⟩ := ih (by omega)
   rw [buckets_succ, List.foldl_append, bucket_from hg (by omega)]
   have hv : n - 1 - (m : Int) = n - ((m + 1 : Nat) : Int) := by omega
   have h1' : PotFrom n arcs (n - ((m + 1 : Nat) : Int) + 1) ((buckets (fun i => n.toNat - 1 - fromN arcs i) (idx arcs) m).foldl (relaxV arcs) (setRow (List.replicate n.toNat (-1)) (n - 1) 0)) := by
    rw [show n - ((m + 1 : Nat) : Int) + 1 = n - (m : Int) from by omega]; exact h1
   rw [hv]
   obtain ⟨h3, h4⟩ := h1'.step hg (by omega) (by omega) h1.len (fun _ _ _ => rfl) (h2 _ (by omega) (by omega))
   exact ⟨h3, fun u h5 h6 => by rw [h4 u h5 (by omega)]; exact h2 u h5 (by omega)⟩
 have := (key n.toNat (by omega)).1
 rw [show n - (n.toNat : Int) = 0 from by omega] at this
 exact this
theorem mem_back {n : Int} {arcs : List Arc} {i : Int} (h : i ∈ backV n arcs) : 0 ≤ i ∧ i < arcs.length := by
 unfold backV at h
 exact mem_idx.1 ((mem_buckets _).1 h).1
theorem back_len {n : Int} {arcs : List Arc} (hg : VG n arcs) : (backV n arcs).length ≤ 6000 := by
 have h1 := (buckets_perm (fun i => n.toNat - 1 - fromN arcs i) n.toNat (idx arcs)).length_eq
 have h2 := List.length_filter_le (fun x => decide ((n.toNat - 1 - fromN arcs x) < n.toNat)) (idx arcs)
 have h3 : (idx arcs).length = arcs.length := by simp [idx]
 have := hg.len
 unfold backV
 omega
theorem costs_eq {n : Int} {arcs : List Arc} (hg : VG n arcs) : route_costs.f n arcs = some (potV n arcs, ()) := by
 have hp := hg.pos
 have hm := hg.most
 rw [route_costs.f_eq, mkLen_nat (by omega) (by omega)]
 simp only [bindD, Option.bind_some, List.length_replicate]
 refine loop_up (fun (s : List Int) i => route_costs.l3 (n.toNat : Nat) i n arcs s) (fun i => (List.range i).map (fun _ => (-1 : Int)) ++ List.replicate (n.toNat - i) 0) n.toNat _ ?_ ?_
 ·show route_costs.l3 _ _ _ _ _ = _
  rw [route_costs.l3_eq, ifB_neg (by omega)]
  have hr : (List.range n.toNat).map (fun _ => (-1 : Int)) ++ List.replicate (n.toNat - n.toNat) (0 : Int) = List.replicate n.toNat (-1) := by
   apply List.ext_getElem
   ·simp
   ·intro i h1 h2; simp
  rw [hr, wrap_in (x := n - 1) (by omega) (by omega)]
  rw [ixAt_gi (p := List.replicate n.toNat (-1)) (i := n - 1) (by omega) (by rw [List.length_replicate]; omega)]
  simp only [bindD, Option.bind_some, backwards_eq hg]
  exact relax_loop hg (backV n arcs) (fun i hi => mem_back hi) (by have := back_len hg; omega) _ (by rw [len_set, List.length_replicate]; omega)
 ·intro i hi
  show route_costs.l3 _ _ _ _ _ = route_costs.l3 _ _ _ _ _
  rw [route_costs.l3_eq, ifB_pos (by omega)]
  have h1 : ∃ x, ixAt ((List.range i).map (fun _ => (-1 : Int)) ++ List.replicate (n.toNat - i) 0) (i : Int) = some x := by
   unfold ixAt
   rw [if_pos (by omega), List.getElem?_eq_getElem (by simp; omega)]
   exact ⟨_, rfl⟩
  obtain ⟨x, h1⟩ := h1
  rw [h1]
  simp only [bindD, Option.bind_some]
  rw [set_fill (fun _ => (-1 : Int)) 0 i n.toNat hi, wrap_succ (by omega)]
end Go.Proofs.C10
end
section
namespace Go.Proofs.C10
open Go Go.Proofs.R
set_option linter.unusedVariables false
end Go.Proofs.C10
end
section
namespace Go.Proofs.C10
open Go Go.Proofs.R
set_option linter.unusedVariables false
theorem r1_fold {arcs : List Arc} {p : List Int} : ∀ (l : List Int), (∀ i ∈ l, gi p (ga arcs i).2.1 ≥ 0 → W64 ((ga arcs i).2.2 + gi p (ga arcs i).2.1) = (ga arcs i).2.2 + gi p (ga arcs i).2.1 ∧ 0 ≤ (ga arcs i).2.2) → ∀ cur : Int, -1 ≤ cur →
  -1 ≤ l.foldl (r1 arcs p) cur ∧ (l.foldl (r1 arcs p) cur = cur ∨ ∃ i ∈ l, gi p (ga arcs i).2.1 ≥ 0 ∧ l.foldl (r1 arcs p) cur = (ga arcs i).2.2 + gi p (ga arcs i).2.1) ∧
  (0 ≤ cur → 0 ≤ l.foldl (r1 arcs p) cur ∧ l.foldl (r1 arcs p) cur ≤ cur) ∧ ∀ i ∈ l, gi p (ga arcs i).2.1 ≥ 0 → 0 ≤ l.foldl (r1 arcs p) cur ∧ l.foldl (r1 arcs p) cur ≤ (ga arcs i).2.2 + gi p (ga arcs i).2.1
 | [], _, cur, hc => ⟨hc, .inl rfl, fun h => ⟨h, Int.le_refl _⟩, fun i hi => by cases hi⟩
 | j :: l, hw, cur, hc => by
  have hj := hw j List.mem_cons_self
  have hl := fun i hi => hw i (List.mem_cons_of_mem _ hi)
  rw [List.foldl_cons]
  obtain ⟨c, hcdef⟩ : ∃ c, c = r1 arcs p cur j := ⟨_, rfl⟩
  have hcur : -1 ≤ c ∧ (c = cur ∨ (gi p (ga arcs j).2.1 ≥ 0 ∧ c = (ga arcs j).2.2 + gi p (ga arcs j).2.1)) ∧ (0 ≤ cur → 0 ≤ c ∧ c ≤ cur) ∧ (gi p (ga arcs j).2.1 ≥ 0 → 0 ≤ c ∧ c ≤ (ga arcs j).2.2 + gi p (ga arcs j).2.1) := by
   rw [hcdef]; unfold r1
   by_cases h1 : gi p (ga arcs j).2.1 ≥ 0
   ·obtain ⟨h2, h3⟩ := hj h1
    rw [h2]
    split
    ·rename_i h4; refine ⟨by omega, .inr ⟨h1, rfl⟩, fun h5 => ⟨by omega, by omega⟩, fun _ => ⟨by omega, Int.le_refl _⟩⟩
    ·rename_i h4; refine ⟨hc, .inl rfl, fun h5 => ⟨h5, Int.le_refl _⟩, fun _ => ⟨by omega, by omega⟩⟩
   ·rw [if_neg (fun h => h1 h.1)]
    exact ⟨hc, .inl rfl, fun h5 => ⟨h5, Int.le_refl _⟩, fun h => absurd h h1⟩
  rw [← hcdef]
  obtain ⟨k1, k2, k3, k4⟩ := hcur
  obtain ⟨m1, m2, m3, m4⟩ := r1_fold l hl c k1
  refine ⟨m1, ?_, ?_, ?_⟩
  ·rcases m2 with m2 | ⟨i, hi, h5, h6⟩
   ·rcases k2 with k2 | ⟨k5, k6⟩
    ·exact .inl (by rw [m2, k2])
    ·exact .inr ⟨j, List.mem_cons_self, k5, by rw [m2, k6]⟩
   ·exact .inr ⟨i, List.mem_cons_of_mem _ hi, h5, h6⟩
  ·intro h; obtain ⟨a, b⟩ := k3 h; obtain ⟨a', b'⟩ := m3 a; omega
  ·intro i hi h5
   rcases List.mem_cons.1 hi with rfl | hi
   ·obtain ⟨a, b⟩ := k4 h5; obtain ⟨a', b'⟩ := m3 a; omega
   ·exact m4 i hi h5
structure PotP (n : Int) (arcs : List Arc) (p : List Int) : Prop where
 len : p.length = n
 bnd : ∀ v : Int, 0 ≤ v → v < n → -1 ≤ gi p v ∧ gi p v ≤ 1000000 * (n - 1 - v)
 last : gi p (n - 1) = 0
 some : ∀ v : Int, 0 ≤ v → v < n - 1 → 0 ≤ gi p v → ∃ i ∈ arcsFrom arcs v, gi p (ga arcs i).2.1 ≥ 0 ∧ gi p v = (ga arcs i).2.2 + gi p (ga arcs i).2.1
 low : ∀ i : Int, 0 ≤ i → i < arcs.length → gi p (ga arcs i).2.1 ≥ 0 → 0 ≤ gi p (ga arcs i).1 ∧ gi p (ga arcs i).1 ≤ (ga arcs i).2.2 + gi p (ga arcs i).2.1
theorem potP {n : Int} {arcs : List Arc} (hg : VG n arcs) : PotP n arcs (potV n arcs) := by
 have hp := potV_ok hg
 have hpos := hg.pos
 have hmost := hg.most
 obtain ⟨p, hpd⟩ : ∃ p, p = potV n arcs := ⟨_, rfl⟩
 rw [← hpd] at hp ⊢
 have key : ∀ (k : Nat) (v : Int), n - v ≤ k → 0 ≤ v → v < n → -1 ≤ gi p v ∧ gi p v ≤ 1000000 * (n - 1 - v) := by
  intro k
  induction k with
  | zero => intro v h1 h2 h3; omega
  | succ k ih =>
   intro v h1 h2 h3
   have hto : ∀ i ∈ arcsFrom arcs v, v < (ga arcs i).2.1 ∧ (ga arcs i).2.1 < n ∧ 0 ≤ (ga arcs i).2.2 ∧ (ga arcs i).2.2 ≤ 1000000 ∧ gi p (ga arcs i).2.1 ≤ 1000000 * (n - 1 - (ga arcs i).2.1) := by
    intro i hi
    obtain ⟨i0, i1, i2⟩ := mem_from.1 hi
    have := hg.arc _ (ga_mem i0 i1)
    have := ih (ga arcs i).2.1 (by omega) (by omega) (by omega)
    omega
   obtain ⟨m1, m2, _, _⟩ := r1_fold (arcs := arcs) (p := p) (arcsFrom arcs v) (fun i hi h => by
    have := hto i hi
    exact ⟨wrap_in (by omega) (by omega), by omega⟩) (init0 n v) (by unfold init0; split <;> omega)
   rw [hp.val v h2 h2 h3]
   refine ⟨m1, ?_⟩
   rcases m2 with m2 | ⟨i, hi, _, h5⟩
   ·rw [m2]; unfold init0; split <;> omega
   ·rw [h5]; have := hto i hi; omega
 have hb : ∀ v, 0 ≤ v → v < n → -1 ≤ gi p v ∧ gi p v ≤ 1000000 * (n - 1 - v) := fun v h1 h2 => key n.toNat v (by omega) h1 h2
 have hw : ∀ v, 0 ≤ v → v < n → ∀ i ∈ arcsFrom arcs v, gi p (ga arcs i).2.1 ≥ 0 → W64 ((ga arcs i).2.2 + gi p (ga arcs i).2.1) = (ga arcs i).2.2 + gi p (ga arcs i).2.1 ∧ 0 ≤ (ga arcs i).2.2 := by
  intro v h1 h2 i hi h
  obtain ⟨i0, i1, i2⟩ := mem_from.1 hi
  have h3 := hg.arc _ (ga_mem i0 i1)
  have := hb (ga arcs i).2.1 (by omega) (by omega)
  exact ⟨wrap_in (by omega) (by omega), by omega⟩
 have hini : ∀ v, -1 ≤ init0 n v := fun v => by unfold init0; split <;> omega
 refine ⟨hp.len, hb, ?_, ?_, ?_⟩
 ·have hnil : arcsFrom arcs (n - 1) = [] := by
   rw [List.eq_nil_iff_forall_not_mem]
   intro i hi
   obtain ⟨i0, i1, i2⟩ := mem_from.1 hi
   have := hg.arc _ (ga_mem i0 i1)
   omega
  rw [hp.val (n - 1) (by omega) (by omega) (by omega), hnil]
  unfold init0; simp
 ·intro v h1 h2 h3
  have hv := hp.val v h1 h1 (by omega)
  obtain ⟨m1, m2, _, _⟩ := r1_fold (arcsFrom arcs v) (hw v h1 (by omega)) (init0 n v) (hini v)
  rw [hv] at h3 ⊢
  rcases m2 with m2 | m2
  ·rw [m2] at h3; unfold init0 at h3; rw [if_neg (by omega)] at h3; omega
  ·exact m2
 ·intro i h1 h2 h3
  have ha := hg.arc _ (ga_mem h1 h2)
  obtain ⟨_, _, _, m4⟩ := r1_fold (arcsFrom arcs (ga arcs i).1) (hw (ga arcs i).1 (by omega) (by omega)) (init0 n (ga arcs i).1) (hini _)
  rw [hp.val (ga arcs i).1 (by omega) (by omega) (by omega)]
  exact m4 i (mem_from.2 ⟨h1, h2, rfl⟩) h3
end Go.Proofs.C10
end
section
namespace Go.Proofs.C10
open Go Go.Proofs.R
set_option linter.unusedVariables false
def pathB (n : Int) (arcs : List Arc) : Int → List Int → Bool
 | at_, [] => at_ == n - 1
 | at_, i :: l => decide (0 ≤ i) && decide (i < arcs.length) && ((ga arcs i).1 == at_) && pathB n arcs (ga arcs i).2.1 l
def sumV (arcs : List Arc) (l : List Int) : Int := (l.map fun i => (ga arcs i).2.2).sum
theorem sumV_app (arcs : List Arc) (a b : List Int) : sumV arcs (a ++ b) = sumV arcs a + sumV arcs b := by unfold sumV; rw [List.map_append, List.sum_append]
theorem sumV_cons (arcs : List Arc) (i : Int) (b : List Int) : sumV arcs (i :: b) = (ga arcs i).2.2 + sumV arcs b := by unfold sumV; rw [List.map_cons, List.sum_cons]
theorem sumV_nil (arcs : List Arc) : sumV arcs [] = 0 := rfl
theorem check_eq {n : Int} {arcs : List Arc} (path : List Int) (hl : path.length < 4611686018427387904) : dag_Check.f n arcs path = some (decide (errV n arcs = 0) && pathB n arcs 0 path, ()) := by
 rw [dag_Check.f_eq, valid_eq]
 simp only [bindD, Option.bind_some]
 by_cases h : errV n arcs = 0
 ·have hg := vg_of h
  have := hg.pos
  have := hg.most
  have := hg.len
  rw [h]
  simp only [bne_self_eq_false, ifB, cond_false, decide_true, Bool.true_and]
  have key := loop_st (fun _ : Int => True) path (fun at_ i => dag_Check.l5 at_ path (path.length : Nat) i n arcs) (fun at_ l => some (pathB n arcs at_ l, ())) ?_ ?_ 0 trivial
  ·exact key
  ·intro s _
   show dag_Check.l5 _ _ _ _ _ _ = _
   rw [dag_Check.l5_eq, ifB_neg (by omega), wrap_in (by omega) (by omega)]
   rfl
  ·intro s i x _ hi ih
   have hlt := (List.getElem?_eq_some_iff.1 hi).1
   show dag_Check.l5 _ _ _ _ _ _ = _
   rw [dag_Check.l5_eq, ifB_pos (by omega), ixN hi, wrap_succ (by omega)]
   simp only [bindD, Option.bind_some, pathB]
   by_cases h1 : x < 0
   ·rw [ifB_pos h1, decide_eq_false (show ¬ 0 ≤ x by omega)]; rfl
   rw [ifB_neg h1, decide_eq_true (show 0 ≤ x by omega)]
   by_cases h2 : x ≥ (arcs.length : Int)
   ·rw [ifB_pos h2, decide_eq_false (show ¬ x < (arcs.length : Int) by omega)]; rfl
   rw [ifB_neg h2, decide_eq_true (show x < (arcs.length : Int) by omega), ixAt_ga (by omega) (by omega)]
   simp only [Option.bind_some, Bool.true_and]
   by_cases h3 : (ga arcs x).1 = s
   ·rw [h3]
    simp only [bne_self_eq_false, ifB, cond_false, beq_self_eq_true, Bool.true_and]
    exact ih _ trivial
   ·have h4 : ((ga arcs x).1 == s) = false := by rw [beq_eq_false_iff_ne]; exact h3
    have h5 : ((ga arcs x).1 != s) = true := by rw [bne, h4]; rfl
    rw [h4, h5]; rfl
 ·have h5 : (errV n arcs != 0) = true := by rw [bne, beq_eq_false_iff_ne.2 h]; rfl
  rw [h5, decide_eq_false h]; rfl
theorem path_mem {n : Int} {arcs : List Arc} : ∀ {l : List Int} {a : Int}, pathB n arcs a l = true → ∀ i ∈ l, 0 ≤ i ∧ i < arcs.length
 | [], _, _, i, hi => by cases hi
 | j :: l, a, h, i, hi => by
  simp only [pathB, Bool.and_eq_true, decide_eq_true_eq, beq_iff_eq] at h
  rcases List.mem_cons.1 hi with rfl | hi
  ·exact h.1.1
  ·exact path_mem h.2 i hi
theorem path_len {n : Int} {arcs : List Arc} (hg : VG n arcs) : ∀ {l : List Int} {a : Int}, pathB n arcs a l = true → 0 ≤ a → a < n → (l.length : Int) ≤ n - 1 - a ∧ 0 ≤ sumV arcs l ∧ sumV arcs l ≤ 1000000 * (n - 1 - a)
 | [], a, h, h0, h1 => by
  simp only [pathB, beq_iff_eq] at h
  simp [sumV]; omega
 | j :: l, a, h, h0, h1 => by
  simp only [pathB, Bool.and_eq_true, decide_eq_true_eq, beq_iff_eq] at h
  obtain ⟨⟨⟨a1, a2⟩, a3⟩, a4⟩ := h
  have ha := hg.arc _ (ga_mem a1 a2)
  obtain ⟨b1, b2, b3⟩ := path_len hg a4 (by omega) (by omega)
  simp only [sumV, List.map_cons, List.sum_cons, List.length_cons] at *
  omega
theorem sum_loop {n : Int} {arcs : List Arc} (hg : VG n arcs) {path : List Int} (hp : pathB n arcs 0 path = true) : ∃ l : Nat, dag_Cost.l8 0 path (path.length : Nat) 0 n arcs = some (sumV arcs path, (0, ())) ∧ ancepsref09_Sum.f n arcs path = some (sumV arcs path, ()) := by
 have hpos := hg.pos
 have hmost := hg.most
 obtain ⟨k1, k2, k3⟩ := path_len hg hp (by omega) (by omega)
 have hmem := path_mem hp
 have hb : ∀ (s : Int) (i : Nat) (x : Int), path[i]? = some x → (0 ≤ s ∧ s + sumV arcs (x :: path.drop (i + 1)) ≤ 2000000000) → W64 (s + (ga arcs x).2.2) = s + (ga arcs x).2.2 ∧ 0 ≤ s + (ga arcs x).2.2 := by
  intro s i x hi hs
  obtain ⟨x0, x1⟩ := hmem x (List.mem_of_getElem? hi)
  have ha := hg.arc _ (ga_mem x0 x1)
  have hr : 0 ≤ sumV arcs (path.drop (i + 1)) := by
   unfold sumV
   have : ∀ l : List Int, (∀ j ∈ l, 0 ≤ j ∧ j < arcs.length) → 0 ≤ (l.map fun i => (ga arcs i).2.2).sum := by
    intro l
    induction l with
    | nil => intro _; simp
    | cons j l ih =>
     intro h
     obtain ⟨j0, j1⟩ := h j List.mem_cons_self
     have hj := hg.arc _ (ga_mem j0 j1)
     have := ih fun k hk => h k (List.mem_cons_of_mem _ hk)
     simp only [List.map_cons, List.sum_cons]; omega
   exact this _ fun j hj => hmem j (List.mem_of_mem_drop hj)
  simp only [sumV, List.map_cons, List.sum_cons] at hs hr
  exact ⟨wrap_in (by omega) (by omega), by omega⟩
 refine ⟨0, ?_, ?_⟩
 ·have key := loop_up (fun (s : Int) i => dag_Cost.l8 s path (path.length : Nat) i n arcs) (fun i => sumV arcs (path.take i)) path.length (some (sumV arcs path, (0, ()))) ?_ ?_
  ·simpa [sumV] using key
  ·show dag_Cost.l8 _ _ _ _ _ _ = _
   rw [dag_Cost.l8_eq, ifB_neg (by omega), List.take_length]
  ·intro i hi
   have hix : path[i]? = some path[i] := List.getElem?_eq_getElem hi
   obtain ⟨x0, x1⟩ := hmem path[i] (List.getElem_mem hi)
   show dag_Cost.l8 _ _ _ _ _ _ = dag_Cost.l8 _ _ _ _ _ _
   have e1 : sumV arcs (path.take (i + 1)) = sumV arcs (path.take i) + (ga arcs path[i]).2.2 := by
    rw [List.take_add_one, hix, sumV_app]; simp only [Option.toList_some, sumV_cons, sumV_nil, Int.add_zero]
   have e2 : sumV arcs path = sumV arcs (path.take i) + sumV arcs (path[i] :: path.drop (i + 1)) := by
    have : path = path.take i ++ path[i] :: path.drop (i + 1) := by rw [← List.drop_eq_getElem_cons hi, List.take_append_drop]
    conv => lhs; rw [this]
    exact sumV_app _ _ _
   have e3 : 0 ≤ sumV arcs (path.take i) := by
    unfold sumV
    have : ∀ l : List Int, (∀ j ∈ l, 0 ≤ j ∧ j < arcs.length) → 0 ≤ (l.map fun i => (ga arcs i).2.2).sum := by
     intro l
     induction l with
     | nil => intro _; simp
     | cons j l ih =>
      intro h
      obtain ⟨j0, j1⟩ := h j List.mem_cons_self
      have hj := hg.arc _ (ga_mem j0 j1)
      have := ih fun k hk => h k (List.mem_cons_of_mem _ hk)
      simp only [List.map_cons, List.sum_cons]; omega
    exact this _ fun j hj => hmem j (List.mem_of_mem_take hj)
   obtain ⟨h1, h2⟩ := hb (sumV arcs (path.take i)) i path[i] hix ⟨e3, by omega⟩
   rw [dag_Cost.l8_eq, ifB_pos (by omega), ixN hix, wrap_succ (by omega)]
   simp only [bindD, Option.bind_some]
   rw [ixAt_ga x0 x1]
   simp only [Option.bind_some]
   rw [show IntKind.i64.wrap (sumV arcs (path.take i) + (ga arcs path[i]).2.2) = sumV arcs (path.take i) + (ga arcs path[i]).2.2 from h1, e1]
 ·rw [ancepsref09_Sum.f_eq]
  have key := loop_up (fun (s : Int) i => ancepsref09_Sum.l3 path s i n arcs) (fun i => sumV arcs (path.take i)) path.length (some (sumV arcs path, ())) ?_ ?_
  ·simpa [sumV] using key
  ·show ancepsref09_Sum.l3 _ _ _ _ _ = _
   rw [ancepsref09_Sum.l3_eq, ifB_neg (by omega), List.take_length]
  ·intro i hi
   have hix : path[i]? = some path[i] := List.getElem?_eq_getElem hi
   obtain ⟨x0, x1⟩ := hmem path[i] (List.getElem_mem hi)
   show ancepsref09_Sum.l3 _ _ _ _ _ = ancepsref09_Sum.l3 _ _ _ _ _
   have e1 : sumV arcs (path.take (i + 1)) = sumV arcs (path.take i) + (ga arcs path[i]).2.2 := by
    rw [List.take_add_one, hix, sumV_app]; simp only [Option.toList_some, sumV_cons, sumV_nil, Int.add_zero]
   have e2 : sumV arcs path = sumV arcs (path.take i) + sumV arcs (path[i] :: path.drop (i + 1)) := by
    have : path = path.take i ++ path[i] :: path.drop (i + 1) := by rw [← List.drop_eq_getElem_cons hi, List.take_append_drop]
    conv => lhs; rw [this]
    exact sumV_app _ _ _
   have e3 : 0 ≤ sumV arcs (path.take i) := by
    unfold sumV
    have : ∀ l : List Int, (∀ j ∈ l, 0 ≤ j ∧ j < arcs.length) → 0 ≤ (l.map fun i => (ga arcs i).2.2).sum := by
     intro l
     induction l with
     | nil => intro _; simp
     | cons j l ih =>
      intro h
      obtain ⟨j0, j1⟩ := h j List.mem_cons_self
      have hj := hg.arc _ (ga_mem j0 j1)
      have := ih fun k hk => h k (List.mem_cons_of_mem _ hk)
      simp only [List.map_cons, List.sum_cons]; omega
    exact this _ fun j hj => hmem j (List.mem_of_mem_take hj)
   obtain ⟨h1, h2⟩ := hb (sumV arcs (path.take i)) i path[i] hix ⟨e3, by omega⟩
   rw [ancepsref09_Sum.l3_eq, ifB_pos (by omega), ixN hix, wrap_succ (by omega)]
   simp only [bindD, Option.bind_some]
   rw [ixAt_ga x0 x1]
   simp only [Option.bind_some]
   rw [show IntKind.i64.wrap (sumV arcs (path.take i) + (ga arcs path[i]).2.2) = sumV arcs (path.take i) + (ga arcs path[i]).2.2 from h1, e1]
theorem cost_eq {n : Int} {arcs : List Arc} (path : List Int) (hl : path.length < 4611686018427387904) : dag_Cost.f n arcs path = some (if errV n arcs = 0 then (if pathB n arcs 0 path = true then (sumV arcs path, (0, ())) else (0, (1, ()))) else (0, (errV n arcs, ()))) := by
 rw [dag_Cost.f_eq, valid_eq, check_eq path hl]
 simp only [bindD, Option.bind_some]
 by_cases h : errV n arcs = 0
 ·rw [if_pos h, h]
  simp only [bne_self_eq_false, ifB, cond_false, decide_true, Bool.true_and]
  by_cases hp : pathB n arcs 0 path = true
  ·rw [if_pos hp, hp]
   obtain ⟨_, h1, _⟩ := sum_loop (vg_of h) hp
   exact h1
  ·rw [if_neg hp, Bool.eq_false_iff.2 hp]; rfl
 ·have h5 : (errV n arcs != 0) = true := by rw [bne, beq_eq_false_iff_ne.2 h]; rfl
  rw [h5, if_neg h]; rfl
end Go.Proofs.C10
end
section
namespace Go.Proofs.R
theorem loop_pr {α : Type} (xs : List α) (T : Int → List α → Prop) (h0 : T (xs.length : Nat) []) (hs : ∀ (i : Nat) (x : α), xs[i]? = some x → T ((i + 1 : Nat) : Int) (xs.drop (i + 1)) → T (i : Int) (x :: xs.drop (i + 1))) : T 0 xs := by
 have key : ∀ (d i : Nat), xs.length - i = d → i ≤ xs.length → T (i : Int) (xs.drop i) := by
  intro d
  induction d with
  | zero =>
   intro i hd hi
   have : i = xs.length := by omega
   subst this
   rw [List.drop_length]; exact h0
  | succ d ih =>
   intro i hd hi
   have hil : i < xs.length := by omega
   rw [List.drop_eq_getElem_cons hil]
   exact hs i _ (List.getElem?_eq_getElem hil) (ih (i + 1) (by omega) (by omega))
 have := key xs.length 0 (by omega) (by omega)
 simpa using this
end Go.Proofs.R
namespace Go.Proofs.C10
open Go Go.Proofs.R
set_option linter.unusedVariables false
def okP (x : Int) : Bool := decide (-1 ≤ x) && decide (x ≤ 1099511627776)
def badA (p : List Int) (a : Arc) : Bool := (decide (gi p a.1 < 0) && decide (gi p a.2.1 ≥ 0)) || (decide (gi p a.1 ≥ 0) && decide (gi p a.2.1 ≥ 0) && decide (gi p a.1 > a.2.2 + gi p a.2.1))
def checkV (n : Int) (arcs : List Arc) (path p : List Int) : Bool :=
 decide (errV n arcs = 0) && pathB n arcs 0 path && decide ((p.length : Int) = n) && decide (gi p 0 = sumV arcs path) && decide (gi p (n - 1) = 0) && p.all okP && arcs.all fun a => !badA p a
theorem out_eq (x : Int) : route_Check_1.f x = some (!okP x, ()) := by
 rw [route_Check_1.f_eq]
 unfold okP
 by_cases h : x < -1
 ·rw [ifB_pos h, decide_eq_false (show ¬ -1 ≤ x by omega)]; rfl
 ·rw [ifB_neg h, decide_eq_true (show -1 ≤ x by omega)]
  by_cases h2 : x ≤ 1099511627776
  ·rw [decide_eq_true h2, decide_eq_false (by omega)]; rfl
  ·rw [decide_eq_false h2, decide_eq_true (by omega)]; rfl
theorem contains_eq (p : List Int) (hl : p.length < 4611686018427387904) : slices_ContainsFunc_int_int.f p = some (!p.all okP, ()) := by
 have key : ∃ r, slices_IndexFunc_int_int.f1 p = some (r, ()) ∧ (0 ≤ r ↔ p.all okP = false) := by
  rw [slices_IndexFunc_int_int.f1_eq]
  refine loop_pr p (fun i l => ∃ r, slices_IndexFunc_int_int.l2_1 p (p.length : Nat) i = some (r, ()) ∧ (0 ≤ r ↔ l.all okP = false)) ?_ ?_
  ·rw [slices_IndexFunc_int_int.l2_1_eq, ifB_neg (by omega)]
   exact ⟨-1, rfl, by simp⟩
  ·intro i x hi ih
   have hlt := (List.getElem?_eq_some_iff.1 hi).1
   rw [slices_IndexFunc_int_int.l2_1_eq, ifB_pos (by omega), ixN hi, wrap_succ (by omega)]
   simp only [bindD, Option.bind_some, out_eq]
   cases hx : okP x with
   | false => exact ⟨i, rfl, by simp [hx]⟩
   | true =>
    obtain ⟨r, h1, h2⟩ := ih
    exact ⟨r, h1, by rw [h2]; simp [hx]⟩
 obtain ⟨r, h1, h2⟩ := key
 rw [slices_ContainsFunc_int_int.f_eq, h1]
 simp only [bindD, Option.bind_some]
 by_cases hr : r ≥ 0
 ·rw [decide_eq_true hr, h2.1 hr]; rfl
 ·rw [decide_eq_false hr]
  cases ha : p.all okP with
  | true => rfl
  | false => exact absurd (h2.2 ha) hr
theorem okP_gi {p : List Int} (h : p.all okP = true) {u : Int} (h0 : 0 ≤ u) (h1 : u < p.length) : -1 ≤ gi p u ∧ gi p u ≤ 1099511627776 := by
 unfold gi
 rw [List.getElem?_eq_getElem (by omega)]
 have := List.all_eq_true.1 h _ (List.getElem_mem (show u.toNat < p.length by omega))
 unfold okP at this
 simp only [Bool.and_eq_true, decide_eq_true_eq] at this
 exact this
theorem bad_eq {n : Int} {arcs : List Arc} (hg : VG n arcs) {p : List Int} (hl : p.length = n) (hp : p.all okP = true) {a : Arc} (ha : a ∈ arcs) : route_Check_2.f a.1 a.2.1 a.2.2 p = some (badA p a, ()) := by
 have h := hg.arc a ha
 obtain ⟨b1, b2⟩ := okP_gi hp (u := a.1) (by omega) (by omega)
 obtain ⟨c1, c2⟩ := okP_gi hp (u := a.2.1) (by omega) (by omega)
 rw [route_Check_2.f_eq, ixAt_gi (i := a.1) (by omega) (by omega), ixAt_gi (i := a.2.1) (by omega) (by omega)]
 simp only [bindD, Option.bind_some]
 unfold badA
 rw [wrap_in (x := gi p a.1 - a.2.2) (by omega) (by omega)]
 by_cases h1 : gi p a.1 < 0
 ·rw [ifB_pos h1, decide_eq_true h1]
  by_cases h2 : gi p a.2.1 = -1
  ·rw [h2]
   simp only [bne_self_eq_false, ifB, cond_false]
   rw [decide_eq_false (show ¬ gi p a.1 ≥ 0 by omega)]
   simp
  ·have h3 : (gi p a.2.1 != -1) = true := by rw [bne, beq_eq_false_iff_ne.2 h2]; rfl
   rw [h3, decide_eq_true (show gi p a.2.1 ≥ 0 by omega)]; rfl
 ·rw [ifB_neg h1, decide_eq_false h1, ifB_pos (show gi p a.1 ≥ 0 by omega), decide_eq_true (show gi p a.1 ≥ 0 by omega)]
  by_cases h2 : gi p a.2.1 ≥ 0
  ·rw [ifB_pos h2, decide_eq_true h2]
   by_cases h3 : gi p a.1 > a.2.2 + gi p a.2.1
   ·rw [decide_eq_true h3, decide_eq_true (by omega)]; rfl
   ·rw [decide_eq_false h3, decide_eq_false (by omega)]; rfl
  ·rw [ifB_neg h2, decide_eq_false h2]; rfl
theorem arcs_eq {n : Int} {arcs : List Arc} (hg : VG n arcs) {p : List Int} (hl : p.length = n) (hp : p.all okP = true) : api_Arc_46.f arcs p = some (!(arcs.all fun a => !badA p a), ()) := by
 have hlen := hg.len
 have key : ∃ r, api_Arc_55.f arcs p = some (r, ()) ∧ (0 ≤ r ↔ (arcs.all fun a => !badA p a) = false) := by
  rw [api_Arc_55.f_eq]
  refine loop_pr arcs (fun i l => ∃ r, api_Arc_55.l2 arcs p (arcs.length : Nat) i = some (r, ()) ∧ (0 ≤ r ↔ (l.all fun a => !badA p a) = false)) ?_ ?_
  ·rw [api_Arc_55.l2_eq, ifB_neg (by omega)]
   exact ⟨-1, rfl, by simp⟩
  ·intro i x hi ih
   have hlt := (List.getElem?_eq_some_iff.1 hi).1
   rw [api_Arc_55.l2_eq, ifB_pos (by omega), ixN hi, wrap_succ (by omega)]
   simp only [bindD, Option.bind_some, bad_eq hg hl hp (List.mem_of_getElem? hi)]
   cases hx : badA p x with
   | true => exact ⟨i, rfl, by simp [hx]⟩
   | false =>
    obtain ⟨r, h1, h2⟩ := ih
    exact ⟨r, h1, by rw [h2]; simp [hx]⟩
 obtain ⟨r, h1, h2⟩ := key
 rw [api_Arc_46.f_eq, h1]
 simp only [bindD, Option.bind_some]
 by_cases hr : r ≥ 0
 ·rw [decide_eq_true hr, h2.1 hr]; rfl
 ·rw [decide_eq_false hr]
  cases ha : (arcs.all fun a => !badA p a) with
  | true => rfl
  | false => exact absurd (h2.2 ha) hr
theorem bne_dec (x y : Int) : (x != y) = !decide (x = y) := by
 by_cases h : x = y
 ·rw [decide_eq_true h, h]; simp
 ·rw [decide_eq_false h, bne, beq_eq_false_iff_ne.2 h]
theorem routeCheck_eq {n : Int} {arcs : List Arc} (path p : List Int) (hl : path.length < 4611686018427387904) (hpl : p.length < 4611686018427387904) : route_Check.f n arcs path p = some (checkV n arcs path p, ()) := by
 rw [route_Check.f_eq, check_eq path hl]
 simp only [bindD, Option.bind_some]
 unfold checkV
 by_cases he : errV n arcs = 0
 ·have hg := vg_of he
  have hpos := hg.pos
  have hmost := hg.most
  rw [decide_eq_true he]
  cases hp : pathB n arcs 0 path with
  | false => rfl
  | true =>
   simp only [Bool.true_and, Bool.not_true, ifB_false, bne_dec]
   by_cases hn : (p.length : Int) = n
   ·rw [decide_eq_true hn, contains_eq p hpl]
    simp only [Bool.not_true, ifB_false, Option.bind_some, Bool.true_and]
    cases ho : p.all okP with
    | false => simp only [Bool.not_false, ifB_true, Bool.and_false, Bool.false_and]
    | true =>
     simp only [Bool.not_true, ifB_false, Bool.and_true]
     rw [cost_eq path hl, if_pos he, if_pos hp, ixAt_gi (by omega) (by omega), wrap_in (x := n - 1) (by omega) (by omega), ixAt_gi (i := n - 1) (by omega) (by omega), arcs_eq hg hn ho]
     simp only [Option.bind_some, decide_true, Bool.not_true, ifB_false]
     by_cases h1 : gi p 0 = sumV arcs path
     ·rw [decide_eq_true h1]
      simp only [Bool.not_true, ifB_false, Bool.true_and]
      by_cases h2 : gi p (n - 1) = 0
      ·rw [decide_eq_true h2]; simp [ifB]
      ·rw [decide_eq_false h2]; rfl
     ·rw [decide_eq_false h1]; rfl
   ·rw [decide_eq_false hn]; rfl
 ·rw [decide_eq_false he]; rfl
end Go.Proofs.C10
end
section
namespace Go.Proofs.C10
open Go Go.Proofs.R
set_option linter.unusedVariables false
/-! ### the arcs of each node -/
def rowsUpto (n : Int) (arcs : List Arc) (m : Nat) : List (List Int) := (List.range n.toNat).map fun (v : Nat) => ((List.range m).map fun (i : Nat) => (i : Int)).filter fun i => (ga arcs i).1 == (v : Int)
def rowsV (n : Int) (arcs : List Arc) : List (List Int) := (List.range n.toNat).map fun (v : Nat) => arcsFrom arcs v
theorem rows_get {n : Int} (arcs : List Arc) {v : Int} (h0 : 0 ≤ v) (h1 : v < n) : ixAt (rowsV n arcs) v = some (arcsFrom arcs v) := by
 unfold ixAt rowsV
 rw [if_pos h0, List.getElem?_map, List.getElem?_range (by omega)]
 show some (arcsFrom arcs (v.toNat : Int)) = _
 rw [show (v.toNat : Int) = v by omega]
theorem rowsUpto_get {n : Int} (arcs : List Arc) (m : Nat) {v : Int} (h0 : 0 ≤ v) (h1 : v < n) : ixAt (rowsUpto n arcs m) v = some (((List.range m).map fun (i : Nat) => (i : Int)).filter fun i => (ga arcs i).1 == v) := by
 unfold ixAt rowsUpto
 rw [if_pos h0, List.getElem?_map, List.getElem?_range (by omega)]
 show some (List.filter (fun i => (ga arcs i).1 == (v.toNat : Int)) _) = _
 rw [show (v.toNat : Int) = v by omega]
theorem rowsUpto_succ {n : Int} (arcs : List Arc) {m : Nat} {v : Int} (h0 : 0 ≤ v) (h1 : v < n) (hv : (ga arcs (m : Int)).1 = v) :
  setRow (rowsUpto n arcs m) v ((((List.range m).map fun (i : Nat) => (i : Int)).filter fun i => (ga arcs i).1 == v) ++ [(m : Int)]) = rowsUpto n arcs (m + 1) := by
 apply List.ext_getElem?
 intro u
 unfold setRow rowsUpto
 rw [List.getElem?_set, List.getElem?_map, List.getElem?_map]
 by_cases hu : v.toNat = u
 ·subst hu
  rw [if_pos rfl, if_pos (by simp; omega), List.getElem?_range (by omega)]
  simp only [Option.map_some, List.range_succ, List.map_append, List.filter_append, List.map_cons, List.map_nil, show (v.toNat : Int) = v by omega, List.filter_cons, List.filter_nil, hv, beq_self_eq_true, if_true]
 ·rw [if_neg hu]
  cases hr : (List.range n.toNat)[u]? with
  | none => rfl
  | some w =>
   have hw : w = u := by
    have := (List.getElem?_eq_some_iff.1 hr).2
    rw [List.getElem_range] at this; exact this.symm
   subst hw
   have hne : ((ga arcs (m : Int)).1 == (w : Int)) = false := by rw [hv, beq_eq_false_iff_ne]; omega
   simp only [Option.map_some, List.range_succ, List.map_append, List.filter_append, List.map_cons, List.map_nil, List.filter_cons, List.filter_nil, hne, Bool.false_eq_true, if_false, List.append_nil]
theorem outgoing_eq {n : Int} {arcs : List Arc} (hg : VG n arcs) : route_outgoing.f n arcs = some (rowsV n arcs, ()) := by
 have hp := hg.pos
 have hm := hg.most
 have hl := hg.len
 rw [route_outgoing.f_eq, mkLen_nat (by omega) (by omega)]
 simp only [bindD, Option.bind_some]
 have h0 : List.replicate n.toNat ([] : List Int) = rowsUpto n arcs 0 := by
  unfold rowsUpto
  apply List.ext_getElem
  ·simp
  ·intro i h1 h2; simp
 rw [h0]
 refine loop_up (fun (s : List (List Int)) i => route_outgoing.l3 arcs (arcs.length : Nat) i s) (fun m => rowsUpto n arcs m) arcs.length _ ?_ ?_
 ·show route_outgoing.l3 _ _ _ _ = _
  rw [route_outgoing.l3_eq, ifB_neg (by omega)]; rfl
 ·intro i hi
  have hga : ixAt arcs (i : Int) = some (ga arcs i) := ixAt_ga (by omega) (by omega)
  have ha := hg.arc _ (ga_mem (arcs := arcs) (i := i) (by omega) (by omega))
  show route_outgoing.l3 _ _ _ _ = route_outgoing.l3 _ _ _ _
  rw [route_outgoing.l3_eq, ifB_pos (by omega), hga]
  simp only [bindD, Option.bind_some]
  rw [rowsUpto_get arcs i (by omega) (by omega)]
  simp only [Option.bind_some]
  rw [grow_ok (by
   have := List.length_filter_le (fun j => (ga arcs j).1 == (ga arcs (i : Int)).1) ((List.range i).map fun (i : Nat) => (i : Int))
   simp only [List.length_map, List.length_range] at this
   simp only [List.length_cons, List.length_nil]; omega)]
  simp only [Option.bind_some, decide_true, ifB, cond_true]
  rw [rowsUpto_succ arcs (by omega) (by omega) rfl, wrap_succ (by omega)]
theorem byFrom_eq {n : Int} {arcs : List Arc} (hg : VG n arcs) : dag_byFrom.f n arcs = some (rowsV n arcs, ()) := by
 have hp := hg.pos
 have hm := hg.most
 have hl := hg.len
 rw [dag_byFrom.f_eq, mkLen_nat (by omega) (by omega)]
 simp only [bindD, Option.bind_some]
 have h0 : List.replicate n.toNat ([] : List Int) = rowsUpto n arcs 0 := by
  unfold rowsUpto
  apply List.ext_getElem
  ·simp
  ·intro i h1 h2; simp
 rw [h0]
 refine loop_up (fun (s : List (List Int)) i => dag_byFrom.l3 arcs (arcs.length : Nat) i s) (fun m => rowsUpto n arcs m) arcs.length _ ?_ ?_
 ·show dag_byFrom.l3 _ _ _ _ = _
  rw [dag_byFrom.l3_eq, ifB_neg (by omega)]; rfl
 ·intro i hi
  have hga : ixAt arcs (i : Int) = some (ga arcs i) := ixAt_ga (by omega) (by omega)
  have ha := hg.arc _ (ga_mem (arcs := arcs) (i := i) (by omega) (by omega))
  show dag_byFrom.l3 _ _ _ _ = dag_byFrom.l3 _ _ _ _
  rw [dag_byFrom.l3_eq, ifB_pos (by omega), hga]
  simp only [bindD, Option.bind_some]
  rw [rowsUpto_get arcs i (by omega) (by omega)]
  simp only [Option.bind_some]
  rw [grow_ok (by
   have := List.length_filter_le (fun j => (ga arcs j).1 == (ga arcs (i : Int)).1) ((List.range i).map fun (i : Nat) => (i : Int))
   simp only [List.length_map, List.length_range] at this
   simp only [List.length_cons, List.length_nil]; omega)]
  simp only [Option.bind_some, decide_true, ifB, cond_true]
  rw [rowsUpto_succ arcs (by omega) (by omega) rfl, wrap_succ (by omega)]
/-! ### the next arc of a cheapest path -/
def okN (arcs : List Arc) (p : List Int) (at_ i : Int) : Bool := decide (gi p (ga arcs i).2.1 ≥ 0) && (W64 ((ga arcs i).2.2 + gi p (ga arcs i).2.1) == gi p at_)
def nextA (arcs : List Arc) (p : List Int) (at_ : Int) : Option Int := (arcsFrom arcs at_).find? (okN arcs p at_)
def bestV (n : Int) (arcs : List Arc) (p : List Int) : Nat → Int → List Int
 | 0, _ => []
 | k + 1, a => if a = n - 1 then [] else match nextA arcs p a with
  | some i => i :: bestV n arcs p k (ga arcs i).2.1
  | none => []
theorem next_some {n : Int} {arcs : List Arc} (hg : VG n arcs) {p : List Int} (hp : PotP n arcs p) {a : Int} (h0 : 0 ≤ a) (h1 : a < n - 1) (h2 : 0 ≤ gi p a) :
  ∃ i, nextA arcs p a = some i ∧ i ∈ arcsFrom arcs a ∧ gi p (ga arcs i).2.1 ≥ 0 ∧ gi p a = (ga arcs i).2.2 + gi p (ga arcs i).2.1 ∧ 0 ≤ i ∧ i < arcs.length ∧ a < (ga arcs i).2.1 ∧ (ga arcs i).2.1 < n := by
 have hpos := hg.pos
 have hmost := hg.most
 have hin : ∀ i ∈ arcsFrom arcs a, 0 ≤ i ∧ i < arcs.length ∧ a < (ga arcs i).2.1 ∧ (ga arcs i).2.1 < n ∧ (gi p (ga arcs i).2.1 ≥ 0 → W64 ((ga arcs i).2.2 + gi p (ga arcs i).2.1) = (ga arcs i).2.2 + gi p (ga arcs i).2.1) := by
  intro i hi
  obtain ⟨i0, i1, i2⟩ := mem_from.1 hi
  have h := hg.arc _ (ga_mem i0 i1)
  have := hp.bnd (ga arcs i).2.1 (by omega) (by omega)
  exact ⟨i0, i1, by omega, by omega, fun _ => wrap_in (by omega) (by omega)⟩
 obtain ⟨j, hj, hj1, hj2⟩ := hp.some a h0 h1 h2
 obtain ⟨j0, j1, j2, j3, j4⟩ := hin j hj
 have hok : okN arcs p a j = true := by
  unfold okN; rw [decide_eq_true hj1, j4 hj1, Bool.true_and, beq_iff_eq]; exact hj2.symm
 cases hf : nextA arcs p a with
 | none =>
  have := List.find?_eq_none.1 hf j hj
  exact absurd hok this
 | some i =>
  have hi := List.mem_of_find?_eq_some hf
  have hoi := List.find?_some hf
  obtain ⟨i0, i1, i2, i3, i4⟩ := hin i hi
  unfold okN at hoi
  simp only [Bool.and_eq_true, decide_eq_true_eq, beq_iff_eq] at hoi
  exact ⟨i, rfl, hi, hoi.1, by rw [← hoi.2, i4 hoi.1], i0, i1, i2, i3⟩
theorem best1_eq {n : Int} {arcs : List Arc} (hg : VG n arcs) {p : List Int} (hp : PotP n arcs p) {a i : Int} (h0 : 0 ≤ a) (h1 : a < n) (hi : i ∈ arcsFrom arcs a) : route_Best_1.f i n arcs p a = some (okN arcs p a i, ()) := by
 obtain ⟨i0, i1, i2⟩ := mem_from.1 hi
 have h := hg.arc _ (ga_mem i0 i1)
 have hl := hp.len
 rw [route_Best_1.f_eq, ixAt_ga i0 i1]
 simp only [bindD, Option.bind_some]
 rw [ixAt_gi (i := (ga arcs i).2.1) (by omega) (by omega)]
 simp only [Option.bind_some]
 unfold okN
 by_cases h1 : gi p (ga arcs i).2.1 ≥ 0
 ·rw [ifB_pos h1, ixAt_gi (i := a) (by omega) (by omega), decide_eq_true h1]
  simp
 ·rw [ifB_neg h1, decide_eq_false h1]; rfl
theorem find_ix {n : Int} {arcs : List Arc} (hg : VG n arcs) {p : List Int} (hp : PotP n arcs p) {a : Int} (h0 : 0 ≤ a) (h1 : a < n) {i : Int} (hn : nextA arcs p a = some i) :
  ∃ k : Nat, slices_IndexFunc_int_int.f (arcsFrom arcs a) n arcs p a = some ((k : Int), ()) ∧ (arcsFrom arcs a)[k]? = some i := by
 have hlen : (arcsFrom arcs a).length ≤ 6000 := by
  have h2 := List.length_filter_le (fun i => (ga arcs i).1 == a) (idx arcs)
  have h3 : (idx arcs).length = arcs.length := by simp [idx]
  have := hg.len
  unfold arcsFrom; omega
 rw [slices_IndexFunc_int_int.f_eq]
 refine loop_pr (arcsFrom arcs a) (fun j l => l.find? (okN arcs p a) = some i → ∃ k : Nat, slices_IndexFunc_int_int.l2 (arcsFrom arcs a) n arcs p a ((arcsFrom arcs a).length : Nat) j = some ((k : Int), ()) ∧ (arcsFrom arcs a)[k]? = some i) ?_ ?_ hn
 ·intro h; cases h
 ·intro j x hj ih h
  have hlt := (List.getElem?_eq_some_iff.1 hj).1
  rw [slices_IndexFunc_int_int.l2_eq, ifB_pos (by omega), ixN hj, wrap_succ (by omega)]
  simp only [bindD, Option.bind_some, best1_eq hg hp h0 h1 (List.mem_of_getElem? hj)]
  rw [List.find?_cons] at h
  cases hx : okN arcs p a x with
  | true =>
   rw [hx] at h
   simp only [Option.some.injEq] at h
   subst h
   exact ⟨j, rfl, hj⟩
  | false =>
   rw [hx] at h
   exact ih h
theorem best_loop {n : Int} {arcs : List Arc} (hg : VG n arcs) {p : List Int} (hp : PotP n arcs p) : ∀ (k : Nat) (a : Int) (path : List Int), n - a ≤ k → 0 ≤ a → a < n → 0 ≤ gi p a → (path.length : Int) ≤ a →
  route_Best.l10 n arcs (rowsV n arcs) path a p = some (path ++ bestV n arcs p k a, (p, (0, ()))) := by
 have hpos := hg.pos
 have hmost := hg.most
 intro k
 induction k with
 | zero => intro a path h1 h2 h3; omega
 | succ k ih =>
  intro a path h1 h2 h3 h4 h5
  rw [route_Best.l10_eq, wrap_in (x := n - 1) (by omega) (by omega), bne_dec]
  unfold bestV
  by_cases ha : a = n - 1
  ·rw [decide_eq_true ha, if_pos ha, List.append_nil]; rfl
  ·rw [decide_eq_false ha, if_neg ha]
   obtain ⟨i, hn, hi, hi1, hi2, i0, i1, i2, i3⟩ := next_some hg hp h2 (by omega) h4
   obtain ⟨j, hj1, hj2⟩ := find_ix hg hp h2 h3 hn
   rw [hn, rows_get arcs h2 h3]
   simp only [Bool.not_false, ifB_true, bindD, Option.bind_some, hj1]
   rw [ixN hj2]
   simp only [Option.bind_some]
   rw [grow_ok (by simp only [List.length_cons, List.length_nil]; omega)]
   simp only [Option.bind_some]
   rw [ixAt_ga i0 i1]
   simp only [Option.bind_some]
   rw [ih (ga arcs i).2.1 (path ++ [i]) (by omega) (by omega) i3 (by omega) (by simp only [List.length_append, List.length_cons, List.length_nil]; omega)]
   simp
def bestR (n : Int) (arcs : List Arc) : List Int × (List Int × (Int × Unit)) :=
 if errV n arcs = 0 then (if gi (potV n arcs) 0 < 0 then ([], ([], (10, ()))) else (bestV n arcs (potV n arcs) n.toNat 0, (potV n arcs, (0, ())))) else ([], ([], (errV n arcs, ())))
theorem best_eq (n : Int) (arcs : List Arc) : route_Best.f n arcs = some (bestR n arcs) := by
 rw [route_Best.f_eq, valid_eq]
 simp only [bindD, Option.bind_some, bne_dec]
 unfold bestR
 by_cases he : errV n arcs = 0
 ·have hg := vg_of he
  have hpos := hg.pos
  have hp := potP hg
  have hl := hp.len
  rw [decide_eq_true he, if_pos he, costs_eq hg]
  simp only [Bool.not_true, ifB_false, Option.bind_some]
  rw [ixAt_gi (by omega) (by omega)]
  simp only [Option.bind_some]
  by_cases h0 : gi (potV n arcs) 0 < 0
  ·rw [ifB_pos h0, if_pos h0]
  ·rw [ifB_neg h0, if_neg h0, outgoing_eq hg]
   simp only [Option.bind_some]
   rw [best_loop hg hp n.toNat 0 [] (by omega) (by omega) (by omega) (by omega) (by simp)]
   rfl
 ·rw [decide_eq_false he, if_neg he]; rfl
theorem best_path {n : Int} {arcs : List Arc} (hg : VG n arcs) {p : List Int} (hp : PotP n arcs p) : ∀ (k : Nat) (a : Int), n - a ≤ k → 0 ≤ a → a < n → 0 ≤ gi p a → pathB n arcs a (bestV n arcs p k a) = true ∧ sumV arcs (bestV n arcs p k a) = gi p a := by
 intro k
 induction k with
 | zero => intro a h1 h2 h3; omega
 | succ k ih =>
  intro a h1 h2 h3 h4
  unfold bestV
  by_cases ha : a = n - 1
  ·rw [if_pos ha]
   exact ⟨by simp [pathB, ha], by rw [sumV_nil, ha, hp.last]⟩
  ·rw [if_neg ha]
   obtain ⟨i, hn, hi, hi1, hi2, i0, i1, i2, i3⟩ := next_some hg hp h2 (by omega) h4
   obtain ⟨k1, k2⟩ := ih (ga arcs i).2.1 (by omega) (by omega) i3 (by omega)
   rw [hn]
   have h5 := (mem_from.1 hi).2.2
   refine ⟨?_, by rw [sumV_cons, k2, hi2]⟩
   simp only [pathB, k1, h5, decide_eq_true i0, decide_eq_true i1, beq_self_eq_true, Bool.and_self]
theorem best_check {n : Int} {arcs : List Arc} (he : errV n arcs = 0) (h0 : ¬ gi (potV n arcs) 0 < 0) : checkV n arcs (bestV n arcs (potV n arcs) n.toNat 0) (potV n arcs) = true := by
 have hg := vg_of he
 have hpos := hg.pos
 have hmost := hg.most
 have hp := potP hg
 have hl := hp.len
 obtain ⟨h1, h2⟩ := best_path hg hp n.toNat 0 (by omega) (by omega) (by omega) (by omega)
 unfold checkV
 simp only [Bool.and_eq_true, decide_eq_true_eq]
 refine ⟨⟨⟨⟨⟨⟨he, h1⟩, hp.len⟩, h2.symm⟩, hp.last⟩, ?_⟩, ?_⟩
 ·rw [List.all_eq_true]
  intro x hx
  obtain ⟨u, hu, rfl⟩ := List.mem_iff_getElem.1 hx
  have := hp.bnd (u : Int) (by omega) (by omega)
  have hgi : gi (potV n arcs) (u : Int) = (potV n arcs)[u] := by unfold gi; rw [Int.toNat_natCast, List.getElem?_eq_getElem hu]; rfl
  rw [hgi] at this
  unfold okP
  rw [decide_eq_true (by omega), decide_eq_true (by omega)]; rfl
 ·rw [List.all_eq_true]
  intro a ha
  obtain ⟨u, hu, rfl⟩ := List.mem_iff_getElem.1 ha
  have hga : ga arcs (u : Int) = arcs[u] := by unfold ga; rw [Int.toNat_natCast, List.getElem?_eq_getElem hu]; rfl
  have hlow := hp.low (u : Int) (by omega) (by omega)
  rw [hga] at hlow
  unfold badA
  by_cases h3 : gi (potV n arcs) arcs[u].2.1 ≥ 0
  ·obtain ⟨k1, k2⟩ := hlow h3
   rw [decide_eq_false (show ¬ gi (potV n arcs) arcs[u].1 < 0 by omega), decide_eq_false (show ¬ gi (potV n arcs) arcs[u].1 > arcs[u].2.2 + gi (potV n arcs) arcs[u].2.1 by omega)]
   simp
  ·rw [decide_eq_false h3]; simp
end Go.Proofs.C10
end
section
namespace Go.Proofs.C10
open Go Go.Proofs.R
set_option linter.unusedVariables false
def allP (n : Int) (arcs : List Arc) : Nat → Int → List (List Int)
 | 0, _ => []
 | k + 1, v => if v = n - 1 then [[]] else (arcsFrom arcs v).flatMap fun i => (allP n arcs k (ga arcs i).2.1).map fun l => i :: l
theorem allP_fuel {n : Int} {arcs : List Arc} (hg : VG n arcs) : ∀ (k j : Nat) (v : Int), n - v ≤ k → n - v ≤ j → 0 ≤ v → v < n → allP n arcs k v = allP n arcs j v
 | 0, _, v, h1, _, h3, h4 => by omega
 | k + 1, 0, v, h1, h2, h3, h4 => by omega
 | k + 1, j + 1, v, h1, h2, h3, h4 => by
  unfold allP
  split
  ·rfl
  ·refine fm_congr fun i hi => ?_
   obtain ⟨i0, i1, i2⟩ := mem_from.1 hi
   have h := hg.arc _ (ga_mem i0 i1)
   rw [allP_fuel hg k j _ (by omega) (by omega) (by omega) (by omega)]
def AP (n : Int) (arcs : List Arc) (v : Int) : List (List Int) := allP n arcs n.toNat v
theorem AP_eq {n : Int} {arcs : List Arc} (hg : VG n arcs) {v : Int} (h0 : 0 ≤ v) (h1 : v < n) : AP n arcs v = if v = n - 1 then [[]] else (arcsFrom arcs v).flatMap fun i => (AP n arcs (ga arcs i).2.1).map fun l => i :: l := by
 unfold AP
 rw [allP_fuel hg n.toNat (n.toNat + 1) v (by omega) (by omega) h0 h1]
 rfl
theorem from_last {n : Int} {arcs : List Arc} (hg : VG n arcs) : arcsFrom arcs (n - 1) = [] := by
 rw [List.eq_nil_iff_forall_not_mem]
 intro i hi
 obtain ⟨i0, i1, i2⟩ := mem_from.1 hi
 have := hg.arc _ (ga_mem i0 i1)
 omega
def CAP : Int := 4611686018427387905
def cnt (n : Int) (arcs : List Arc) (v : Int) : Int := min ((AP n arcs v).length : Int) CAP
def sumL (n : Int) (arcs : List Arc) (l : List Int) : Int := (l.map fun i => ((AP n arcs (ga arcs i).2.1).length : Int)).sum
theorem sumL_nonneg (n : Int) (arcs : List Arc) : ∀ l : List Int, 0 ≤ sumL n arcs l
 | [] => by simp [sumL]
 | i :: l => by have := sumL_nonneg n arcs l; simp only [sumL, List.map_cons, List.sum_cons] at *; omega
theorem len_sum {n : Int} {arcs : List Arc} (l : List Int) : ((l.flatMap fun i => (AP n arcs (ga arcs i).2.1).map fun q => i :: q).length : Int) = sumL n arcs l := by
 induction l with
 | nil => rfl
 | cons i l ih => rw [List.flatMap_cons, List.length_append, List.length_map]; simp only [sumL, List.map_cons, List.sum_cons] at *; omega
theorem node_cnt {n : Int} {arcs : List Arc} (hg : VG n arcs) {m : Int} (h0 : 0 ≤ m) (h1 : m < n) (f : List Int → Int → List Int)
  (hf : ∀ (out : List Int) (i : Int), (out.length : Int) = n → i ∈ arcsFrom arcs m → 0 ≤ gi out m → gi out m ≤ CAP → 0 ≤ gi out (ga arcs i).2.1 → gi out (ga arcs i).2.1 ≤ CAP → f out i = setRow out m (min (gi out m + gi out (ga arcs i).2.1) CAP)) :
  ∀ (l : List Int), (∀ i ∈ l, i ∈ arcsFrom arcs m) → ∀ (out : List Int), (out.length : Int) = n → (∀ u, m < u → u < n → gi out u = cnt n arcs u) → 0 ≤ gi out m → gi out m ≤ CAP →
   ((l.foldl f out).length : Int) = n ∧ (∀ u, 0 ≤ u → u ≠ m → gi (l.foldl f out) u = gi out u) ∧ gi (l.foldl f out) m = min (gi out m + sumL n arcs l) CAP
 | [], _, out, hl, _, g0, g1 => ⟨hl, fun _ _ _ => rfl, by simp only [List.foldl_nil, sumL, List.map_nil, List.sum_nil]; omega⟩
 | i :: l, hi, out, hl, hu, g0, g1 => by
  have hmi := hi i List.mem_cons_self
  obtain ⟨i0, i1, i2⟩ := mem_from.1 hmi
  have h := hg.arc _ (ga_mem i0 i1)
  have hto := hu (ga arcs i).2.1 (by omega) (by omega)
  have hc0 : 0 ≤ cnt n arcs (ga arcs i).2.1 ∧ cnt n arcs (ga arcs i).2.1 ≤ CAP := by unfold cnt CAP; omega
  have he := hf out i hl hmi g0 g1 (by omega) (by omega)
  have hs := sumL_nonneg n arcs l
  have hgm : gi (f out i) m = min (gi out m + gi out (ga arcs i).2.1) CAP := by rw [he, gi_set h0 h0, if_pos ⟨rfl, by omega⟩]
  have hgu : ∀ u, 0 ≤ u → u ≠ m → gi (f out i) u = gi out u := by intro u hu0 hne; rw [he, gi_set h0 hu0, if_neg (by rintro ⟨rfl, _⟩; exact hne rfl)]
  obtain ⟨k1, k2, k3⟩ := node_cnt hg h0 h1 f hf l (fun j hj => hi j (List.mem_cons_of_mem _ hj)) (f out i) (by rw [he, len_set]; exact hl) (fun u h3 h4 => (hgu u (by omega) (by omega)).trans (hu u h3 h4)) (by rw [hgm]; unfold CAP at *; omega) (by rw [hgm]; omega)
  rw [List.foldl_cons]
  refine ⟨k1, fun u h3 h4 => (k2 u h3 h4).trans (hgu u h3 h4), ?_⟩
  rw [k3, hgm, hto]
  simp only [sumL, List.map_cons, List.sum_cons] at hs ⊢
  unfold cnt CAP
  omega
structure CntFrom (n : Int) (arcs : List Arc) (m : Int) (out : List Int) : Prop where
 len : out.length = n
 done : ∀ u : Int, m ≤ u → 0 ≤ u → u < n → gi out u = cnt n arcs u
 todo : ∀ u : Int, 0 ≤ u → u < m → u < n - 1 → gi out u = 0
theorem CntFrom.step {n : Int} {arcs : List Arc} (hg : VG n arcs) {m : Int} (h0 : 0 ≤ m) (h1 : m < n - 1) (f : List Int → Int → List Int)
  (hf : ∀ (out : List Int) (i : Int), (out.length : Int) = n → i ∈ arcsFrom arcs m → 0 ≤ gi out m → gi out m ≤ CAP → 0 ≤ gi out (ga arcs i).2.1 → gi out (ga arcs i).2.1 ≤ CAP → f out i = setRow out m (min (gi out m + gi out (ga arcs i).2.1) CAP))
  {out : List Int} (h : CntFrom n arcs (m + 1) out) : CntFrom n arcs m ((arcsFrom arcs m).foldl f out) := by
 have hz := h.todo m h0 (by omega) h1
 obtain ⟨k1, k2, k3⟩ := node_cnt hg h0 (by omega) f hf (arcsFrom arcs m) (fun i hi => hi) out h.len (fun u h3 h4 => h.done u (by omega) (by omega) h4) (by omega) (by unfold CAP; omega)
 refine ⟨k1, ?_, ?_⟩
 ·intro u h3 h4 h5
  by_cases he : u = m
  ·subst he
   rw [k3, hz, Int.zero_add, ← len_sum]
   unfold cnt
   rw [AP_eq hg h0 (by omega), if_neg (by omega)]
  ·rw [k2 u h4 he]; exact h.done u (by omega) h4 h5
 ·intro u h3 h4 h5
  rw [k2 u h3 (by omega)]; exact h.todo u h3 (by omega) h5
theorem cnt_last {n : Int} {arcs : List Arc} (hg : VG n arcs) : cnt n arcs (n - 1) = 1 := by
 have := hg.pos
 unfold cnt
 rw [AP_eq hg (by omega) (by omega), if_pos rfl]; rfl
theorem CntFrom.start {n : Int} {arcs : List Arc} (hg : VG n arcs) : CntFrom n arcs (n - 1) (setRow (List.replicate n.toNat 0) (n - 1) 1) := by
 have hp := hg.pos
 refine ⟨by rw [len_set, List.length_replicate]; omega, ?_, ?_⟩
 ·intro u h1 h2 h3
  have : u = n - 1 := by omega
  subst this
  rw [gi_set (by omega) (by omega), if_pos ⟨rfl, by rw [List.length_replicate]; omega⟩, cnt_last hg]
 ·intro u h1 h2 h3
  rw [gi_set (by omega) h1, if_neg (by rintro ⟨rfl, _⟩; omega), gi_rep h1 (by omega)]
/-! ### dag.ways -/
theorem capV_min {a b : Int} (ha : 0 ≤ a) (ha2 : a ≤ CAP) (hb : 0 ≤ b) (hb2 : b ≤ CAP) : C10W.capV a b = min (a + b) CAP := by
 unfold C10W.capV CAP at *
 rw [w64 (n := 4611686018427387904 - b) (by omega)]
 split
 ·omega
 ·rw [w64 (by omega)]; omega
theorem byFromW_eq {n : Int} {arcs : List Arc} (hg : VG n arcs) : C10W.dag_byFrom.f n arcs = some (rowsV n arcs, ()) := by
 have hp := hg.pos
 have hm := hg.most
 have hl := hg.len
 rw [C10W.dag_byFrom.f_eq, mkLen_nat (by omega) (by omega)]
 simp only [bindD, Option.bind_some]
 have h0 : List.replicate n.toNat ([] : List Int) = rowsUpto n arcs 0 := by
  unfold rowsUpto
  apply List.ext_getElem
  ·simp
  ·intro i h1 h2; simp
 rw [h0]
 refine loop_up (fun (s : List (List Int)) i => C10W.dag_byFrom.l3 arcs (arcs.length : Nat) i s) (fun m => rowsUpto n arcs m) arcs.length _ ?_ ?_
 ·show C10W.dag_byFrom.l3 _ _ _ _ = _
  rw [C10W.dag_byFrom.l3_eq, ifB_neg (by omega)]; rfl
 ·intro i hi
  have hga : ixAt arcs (i : Int) = some (ga arcs i) := ixAt_ga (by omega) (by omega)
  have ha := hg.arc _ (ga_mem (arcs := arcs) (i := i) (by omega) (by omega))
  show C10W.dag_byFrom.l3 _ _ _ _ = C10W.dag_byFrom.l3 _ _ _ _
  rw [C10W.dag_byFrom.l3_eq, ifB_pos (by omega), hga]
  simp only [bindD, Option.bind_some]
  rw [rowsUpto_get arcs i (by omega) (by omega)]
  simp only [Option.bind_some]
  rw [grow_ok (by
   have := List.length_filter_le (fun j => (ga arcs j).1 == (ga arcs (i : Int)).1) ((List.range i).map fun (i : Nat) => (i : Int))
   simp only [List.length_map, List.length_range] at this
   simp only [List.length_cons, List.length_nil]; omega)]
  simp only [Option.bind_some, decide_true, ifB, cond_true]
  rw [rowsUpto_succ arcs (by omega) (by omega) rfl, wrap_succ (by omega)]
theorem ways_cnt {n : Int} {arcs : List Arc} (hg : VG n arcs) : ∃ out, dag_ways.f n arcs = some (out, ()) ∧ CntFrom n arcs 0 out := by
 have hp := hg.pos
 have hm := hg.most
 have hl := hg.len
 have he : dag_ways.f n arcs = (C10W.waysV n arcs).bind fun out => some (out, ()) := (Einf_call ctx 67 _).trans (by kernel_rfl)
 have hok : (C10W.arcsOk n arcs && (rowsV n arcs).all (C10W.rowOk arcs) && Nat.ble (rowsV n arcs).length n.toNat) = true := by
  simp only [Bool.and_eq_true]
  refine ⟨⟨?_, ?_⟩, ?_⟩
  ·unfold C10W.arcsOk
   rw [List.all_eq_true]
   intro a ha
   have := hg.arc a ha
   rw [decide_eq_true (by omega), decide_eq_true (by omega)]; rfl
  ·rw [List.all_eq_true]
   intro l hl'
   unfold rowsV at hl'
   obtain ⟨v, _, rfl⟩ := List.mem_map.1 hl'
   unfold C10W.rowOk
   rw [Bool.and_eq_true, List.all_eq_true]
   refine ⟨fun i hi => ?_, ?_⟩
   ·obtain ⟨i0, i1, _⟩ := mem_from.1 hi
    rw [decide_eq_true i0, decide_eq_true i1]; rfl
   ·have h2 := List.length_filter_le (fun i => (ga arcs i).1 == (v : Int)) (idx arcs)
    have h3 : (idx arcs).length = arcs.length := by simp [idx]
    rw [decide_eq_true_eq]
    unfold arcsFrom; omega
  ·rw [Nat.ble_eq]; unfold rowsV; simp
 have hlen : (rowsV n arcs).length = n.toNat := by unfold rowsV; simp
 have hw : C10W.waysV n arcs = some (C10W.roundsV arcs (rowsV n arcs) (C10W.backs n.toNat) (setRow (List.replicate n.toNat 0) (n - 1) 1)) := by
  unfold C10W.waysV
  rw [mkLen_nat (by omega) (by omega)]
  simp only [Option.bind_some]
  rw [wrap_in (x := n - 1) (by omega) (by omega), ixAt_gi (by omega) (by rw [List.length_replicate]; omega), byFromW_eq hg]
  simp only [Option.bind_some]
  rw [hok, hlen]; rfl
 rw [he, hw]
 refine ⟨_, rfl, ?_⟩
 have hstep : ∀ (m : Nat), (m : Int) < n → ∀ (out : List Int) (i : Int), (out.length : Int) = n → i ∈ arcsFrom arcs (m : Int) → 0 ≤ gi out m → gi out m ≤ CAP → 0 ≤ gi out (ga arcs i).2.1 → gi out (ga arcs i).2.1 ≤ CAP → C10W.stepV arcs m out i = setRow out m (min (gi out m + gi out (ga arcs i).2.1) CAP) := by
  intro m hm out i ho hi h1 h2 h3 h4
  rw [← capV_min h1 h2 h3 h4]; rfl
 have key : ∀ j : Nat, j < n.toNat → CntFrom n arcs (n - 1 - j) (((List.range (j + 1)).map fun k => n.toNat - 1 - k).foldl (fun o m => ((rowsV n arcs)[m]?.getD []).foldl (C10W.stepV arcs m) o) (setRow (List.replicate n.toNat 0) (n - 1) 1)) := by
  intro j
  induction j with
  | zero =>
   intro hj
   have hr : (rowsV n arcs)[n.toNat - 1]?.getD [] = [] := by
    unfold rowsV
    rw [List.getElem?_map, List.getElem?_range (by omega)]
    show arcsFrom arcs ((n.toNat - 1 : Nat) : Int) = []
    rw [show ((n.toNat - 1 : Nat) : Int) = n - 1 by omega]; exact from_last hg
   simp only [Nat.zero_add, List.range_one, List.map_cons, List.map_nil, List.foldl_cons, List.foldl_nil, Nat.sub_zero, hr]
   have := CntFrom.start hg
   simpa using this
  | succ j ih =>
   intro hj
   have h1 := ih (by omega)
   rw [List.range_succ, List.map_append, List.foldl_append]
   simp only [List.map_cons, List.map_nil, List.foldl_cons, List.foldl_nil]
   have hr : (rowsV n arcs)[n.toNat - 1 - (j + 1)]?.getD [] = arcsFrom arcs ((n.toNat - 1 - (j + 1) : Nat) : Int) := by
    unfold rowsV
    rw [List.getElem?_map, List.getElem?_range (by omega)]; rfl
   rw [hr]
   have hv : n - 1 - ((j + 1 : Nat) : Int) = ((n.toNat - 1 - (j + 1) : Nat) : Int) := by omega
   rw [hv]
   refine CntFrom.step hg (by omega) (by omega) _ (hstep _ (by omega)) ?_
   rw [show ((n.toNat - 1 - (j + 1) : Nat) : Int) + 1 = n - 1 - (j : Int) by omega]
   exact h1
 have h1 := key (n.toNat - 1) (by omega)
 have h2 : n - 1 - ((n.toNat - 1 : Nat) : Int) = 0 := by omega
 rw [h2, show n.toNat - 1 + 1 = n.toNat by omega] at h1
 exact h1
end Go.Proofs.C10
end
section
namespace Go.Proofs.C10
open Go Go.Proofs.R
set_option linter.unusedVariables false
theorem mem_AP {n : Int} {arcs : List Arc} (hg : VG n arcs) : ∀ (k : Nat) (v : Int), n - v ≤ k → 0 ≤ v → v < n → ∀ q, q ∈ AP n arcs v ↔ pathB n arcs v q = true := by
 intro k
 induction k with
 | zero => intro v h1 h2 h3; omega
 | succ k ih =>
  intro v h1 h2 h3 q
  rw [AP_eq hg h2 h3]
  by_cases hv : v = n - 1
  ·rw [if_pos hv]
   cases q with
   | nil => simp [pathB, hv]
   | cons i q =>
    simp only [List.mem_singleton, List.cons_ne_nil, false_iff, Bool.not_eq_true, pathB]
    by_cases h : 0 ≤ i ∧ i < arcs.length ∧ (ga arcs i).1 = v
    ·have := hg.arc _ (ga_mem h.1 h.2.1)
     omega
    ·by_cases a1 : 0 ≤ i
     ·by_cases a2 : i < arcs.length
      ·have : ((ga arcs i).1 == v) = false := beq_eq_false_iff_ne.2 fun h3 => h ⟨a1, a2, h3⟩
       rw [this]; simp
      ·rw [decide_eq_false a2]; simp
     ·rw [decide_eq_false a1]; simp
  ·rw [if_neg hv]
   cases q with
   | nil =>
    simp only [pathB, beq_iff_eq, hv, iff_false, List.mem_flatMap, not_exists, not_and]
    intro i _ h
    obtain ⟨_, _, h⟩ := List.mem_map.1 h
    cases h
   | cons i q =>
    simp only [pathB, Bool.and_eq_true, decide_eq_true_eq, beq_iff_eq, List.mem_flatMap]
    constructor
    ·rintro ⟨j, hj, h⟩
     obtain ⟨l, hl, he⟩ := List.mem_map.1 h
     cases he
     obtain ⟨j0, j1, j2⟩ := mem_from.1 hj
     have := hg.arc _ (ga_mem j0 j1)
     exact ⟨⟨⟨j0, j1⟩, j2⟩, (ih _ (by omega) (by omega) (by omega) q).1 hl⟩
    ·rintro ⟨⟨⟨i0, i1⟩, i2⟩, h⟩
     have := hg.arc _ (ga_mem i0 i1)
     exact ⟨i, mem_from.2 ⟨i0, i1, i2⟩, List.mem_map.2 ⟨q, (ih _ (by omega) (by omega) (by omega) q).2 h, rfl⟩⟩
theorem AP_path {n : Int} {arcs : List Arc} (hg : VG n arcs) {v : Int} (h0 : 0 ≤ v) (h1 : v < n) {q : List Int} : q ∈ AP n arcs v ↔ pathB n arcs v q = true := mem_AP hg n.toNat v (by omega) h0 h1 q
theorem AP_len {n : Int} {arcs : List Arc} (hg : VG n arcs) {v : Int} (h0 : 0 ≤ v) (h1 : v < n) {q : List Int} (hq : q ∈ AP n arcs v) : (q.length : Int) ≤ n - 1 - v := (path_len hg ((AP_path hg h0 h1).1 hq) h0 h1).1
theorem cnt_pos {n : Int} {arcs : List Arc} {out : List Int} (h : CntFrom n arcs 0 out) {u : Int} (h0 : 0 ≤ u) (h1 : u < n) : (gi out u > 0 ↔ AP n arcs u ≠ []) ∧ (gi out u = 0 ↔ AP n arcs u = []) := by
 rw [h.done u h0 h0 h1]
 unfold cnt CAP
 cases ha : AP n arcs u with
 | nil => simp; omega
 | cons q l =>
  simp only [List.length_cons, ne_eq, reduceCtorEq, not_false_eq_true, iff_true, iff_false]
  omega
def szL (n : Int) (arcs : List Arc) (l : List Int) : Nat := (l.flatMap fun i => (AP n arcs (ga arcs i).2.1).map fun q => i :: q).length
theorem szL_cons (n : Int) (arcs : List Arc) (i : Int) (l : List Int) : szL n arcs (i :: l) = (AP n arcs (ga arcs i).2.1).length + szL n arcs l := by unfold szL; rw [List.flatMap_cons, List.length_append, List.length_map]
theorem AP_sz {n : Int} {arcs : List Arc} (hg : VG n arcs) {v : Int} (h0 : 0 ≤ v) (h1 : v < n - 1) : (AP n arcs v).length = szL n arcs (arcsFrom arcs v) := by
 rw [AP_eq hg h0 (by omega), if_neg (by omega)]; rfl
theorem clone_eq (l : List Int) (h : l.length ≤ 4294967296) : slices_Clone_int_int.f l = some (l, ()) := by
 rw [slices_Clone_int_int.f_eq, grow_ok h]; rfl
theorem walk_eq {n : Int} {arcs : List Arc} (hg : VG n arcs) {left : List Int} (hc : CntFrom n arcs 0 left) : ∀ (k : Nat) (v : Int), n - v ≤ k → 0 ≤ v → v < n → ∀ (out : List (List Int)) (path : List Int), out.length + (AP n arcs v).length ≤ 2000 → (path.length : Int) ≤ v →
  dag_Paths_1.f v n arcs out path (rowsV n arcs) left = some (n, (arcs, (out ++ (AP n arcs v).map (path ++ ·), (path, (rowsV n arcs, (left, ())))))) := by
 have hpos := hg.pos
 have hmost := hg.most
 intro k
 induction k with
 | zero => intro v h1 h2 h3; omega
 | succ k ih =>
  intro v h1 h2 h3 out path ho hp
  rw [dag_Paths_1.f_eq, wrap_in (x := n - 1) (by omega) (by omega)]
  by_cases hv : v = n - 1
  ·have he : AP n arcs v = [[]] := by rw [AP_eq hg h2 h3, if_pos hv]
   have hb : (v == n - 1) = true := by rw [beq_iff_eq]; exact hv
   rw [hb, ifB_true, clone_eq path (by omega), he]
   rw [he] at ho
   simp only [bindD, Option.bind_some]
   rw [grow_ok (by simp only [List.length_cons, List.length_nil] at ho ⊢; omega)]
   simp
  ·have hb : (v == n - 1) = false := beq_eq_false_iff_ne.2 hv
   rw [hb, ifB_false, rows_get arcs h2 h3]
   simp only [bindD, Option.bind_some]
   have hsz := AP_sz hg h2 (show v < n - 1 by omega)
   have hfl : (arcsFrom arcs v).length ≤ 6000 := by
    have h2 := List.length_filter_le (fun i => (ga arcs i).1 == v) (idx arcs)
    have h3 : (idx arcs).length = arcs.length := by simp [idx]
    have := hg.len
    unfold arcsFrom; omega
   have key := loop_pr (arcsFrom arcs v) (fun j l => (∀ x ∈ l, x ∈ arcsFrom arcs v) → ∀ out : List (List Int), out.length + szL n arcs l ≤ 2000 →
    dag_Paths_1.l3 (arcsFrom arcs v) ((arcsFrom arcs v).length : Nat) j n arcs left (rowsV n arcs) path out =
     some (n, (arcs, (out ++ (l.flatMap fun i => (AP n arcs (ga arcs i).2.1).map fun q => i :: q).map (path ++ ·), (path, (rowsV n arcs, (left, ()))))))) ?_ ?_
   ·rw [key (fun _ h => h) out (by omega), AP_eq hg h2 h3, if_neg hv]
   ·intro _ out _
    rw [dag_Paths_1.l3_eq, ifB_neg (by omega)]
    simp
   ·intro j x hj ihl hin out ho
    have hlt := (List.getElem?_eq_some_iff.1 hj).1
    have hx := hin x List.mem_cons_self
    obtain ⟨x0, x1, x2⟩ := mem_from.1 hx
    have ha := hg.arc _ (ga_mem x0 x1)
    rw [szL_cons] at ho
    have hl := hc.len
    rw [dag_Paths_1.l3_eq, ifB_pos (by omega), ixN hj, wrap_succ (by omega)]
    simp only [bindD, Option.bind_some]
    rw [ixAt_ga x0 x1]
    simp only [Option.bind_some]
    rw [ixAt_gi (i := (ga arcs x).2.1) (by omega) (by omega)]
    simp only [Option.bind_some]
    by_cases hz : gi left (ga arcs x).2.1 > 0
    ·rw [ifB_pos hz, grow_ok (by simp only [List.length_cons, List.length_nil]; omega)]
     simp only [Option.bind_some]
     rw [ih (ga arcs x).2.1 (by omega) (by omega) (by omega) out (path ++ [x]) (by omega) (by simp only [List.length_append, List.length_cons, List.length_nil]; omega)]
     simp only [Option.bind_some]
     have hsub : subL (path ++ [x]) 0 (IntKind.i64.wrap (((path ++ [x]).length : Nat) - 1)) = some path := by
      have hlp : (((path ++ [x]).length : Nat) : Int) - 1 = (path.length : Int) := by simp only [List.length_append, List.length_cons, List.length_nil]; omega
      rw [hlp, wrap_in (by omega) (by omega)]
      unfold subL
      rw [if_pos ⟨by omega, by omega, by simp only [List.length_append, List.length_cons, List.length_nil]; omega⟩]
      simp
     rw [hsub]
     simp only [Option.bind_some]
     rw [ihl (fun y hy => hin y (List.mem_cons_of_mem _ hy)) _ (by simp only [List.length_append, List.length_map]; omega)]
     rw [List.flatMap_cons, List.map_append, List.map_map]
     congr 4
     simp [Function.comp_def]
    ·rw [ifB_neg hz]
     have hnil : AP n arcs (ga arcs x).2.1 = [] := by
      have := (cnt_pos hc (u := (ga arcs x).2.1) (by omega) (by omega)).1
      cases h : AP n arcs (ga arcs x).2.1 with
      | nil => rfl
      | cons a b => exact absurd (this.2 (by rw [h]; simp)) hz
     rw [ihl (fun y hy => hin y (List.mem_cons_of_mem _ hy)) out (by omega), List.flatMap_cons, hnil]
     rfl
def pathsR (n : Int) (arcs : List Arc) : List (List Int) × (Int × Unit) :=
 if errV n arcs = 0 then (if (AP n arcs 0).length > 2000 then ([], (3, ())) else (AP n arcs 0, (0, ()))) else ([], (errV n arcs, ()))
theorem paths_eq (n : Int) (arcs : List Arc) : dag_Paths.f n arcs = some (pathsR n arcs) := by
 rw [dag_Paths.f_eq, valid_eq]
 simp only [bindD, Option.bind_some, bne_dec]
 unfold pathsR
 by_cases he : errV n arcs = 0
 ·have hg := vg_of he
  have hpos := hg.pos
  obtain ⟨left, hw, hc⟩ := ways_cnt hg
  have hl := hc.len
  have h0 := hc.done 0 (by omega) (by omega) (by omega)
  rw [decide_eq_true he, if_pos he, hw]
  simp only [Bool.not_true, ifB_false, Option.bind_some]
  rw [ixAt_gi (by omega) (by omega)]
  simp only [Option.bind_some]
  rw [h0]
  by_cases h1 : (AP n arcs 0).length > 2000
  ·rw [if_pos h1, ifB_pos (by unfold cnt CAP; omega)]
  ·rw [if_neg h1, ifB_neg (by unfold cnt CAP; omega), byFrom_eq hg]
   simp only [Option.bind_some]
   cases ha : AP n arcs 0 with
   | nil => rw [ifB_neg (by unfold cnt CAP; rw [ha]; simp only [List.length_nil]; omega)]
   | cons q l =>
    rw [ifB_pos (by unfold cnt CAP; rw [ha]; simp only [List.length_cons]; omega), walk_eq hg hc n.toNat 0 (by omega) (by omega) (by omega) [] [] (by simp only [List.length_nil]; omega) (by simp)]
    simp [ha]
 ·rw [decide_eq_false he, if_neg he]; rfl
end Go.Proofs.C10
end
section
namespace Go.Proofs.C10
open Go Go.Proofs.R
set_option linter.unusedVariables false
end Go.Proofs.C10
end
section
namespace Go.Proofs.C10
open Go Go.Proofs.R
set_option linter.unusedVariables false
def lexC : List Int → List Int → Int
 | [], [] => 0
 | [], _ :: _ => -1
 | _ :: _, [] => 1
 | x :: xs, y :: ys => if x = y then lexC xs ys else cmpI x y
theorem cmpI_ne {x y : Int} (h : x ≠ y) : cmpI x y = -1 ∧ x < y ∨ cmpI x y = 1 ∧ y < x := by
 unfold cmpI
 by_cases h1 : x < y
 ·rw [if_pos h1]; exact .inl ⟨rfl, h1⟩
 ·rw [if_neg h1, if_pos (by omega)]; exact .inr ⟨rfl, by omega⟩
theorem lexC_zero : ∀ {a b : List Int}, lexC a b = 0 → a = b
 | [], [], _ => rfl
 | [], _ :: _, h => by simp [lexC] at h
 | _ :: _, [], h => by simp [lexC] at h
 | x :: xs, y :: ys, h => by
  unfold lexC at h
  by_cases he : x = y
  ·rw [if_pos he] at h; rw [he, lexC_zero h]
  ·rw [if_neg he] at h
   rcases cmpI_ne he with ⟨h1, _⟩ | ⟨h1, _⟩ <;> (rw [h1] at h; cases h)
theorem lexC_self : ∀ a : List Int, lexC a a = 0
 | [] => rfl
 | x :: xs => by unfold lexC; rw [if_pos rfl]; exact lexC_self xs
theorem lexC_swap : ∀ a b : List Int, lexC b a = - lexC a b
 | [], [] => rfl
 | [], _ :: _ => rfl
 | _ :: _, [] => rfl
 | x :: xs, y :: ys => by
  unfold lexC
  by_cases he : x = y
  ·rw [if_pos he, if_pos he.symm]; exact lexC_swap xs ys
  ·rw [if_neg he, if_neg (fun h => he h.symm)]
   unfold cmpI
   split <;> split <;> first | omega | (split <;> omega)
theorem lexC_tr : ∀ {a b c : List Int}, lexC a b < 0 → lexC b c < 0 → lexC a c < 0
 | [], [], _, h, _ => by simp [lexC] at h
 | [], _ :: _, [], _, h => by simp [lexC] at h
 | [], _ :: _, _ :: _, _, _ => by simp [lexC]
 | _ :: _, [], _, h, _ => by simp [lexC] at h
 | _ :: _, _ :: _, [], _, h => by simp [lexC] at h
 | x :: xs, y :: ys, z :: zs, h1, h2 => by
  unfold lexC at h1 h2 ⊢
  by_cases he : x = y
  ·subst he
   rw [if_pos rfl] at h1
   by_cases hz : x = z
   ·rw [if_pos hz] at h2 ⊢; exact lexC_tr h1 h2
   ·rw [if_neg hz] at h2 ⊢; exact h2
  ·rw [if_neg he] at h1
   have hxy := (cmpI_neg x y).1 h1
   by_cases hz : y = z
   ·subst hz; rw [if_neg he]; exact h1
   ·rw [if_neg hz] at h2
    have hyz := (cmpI_neg y z).1 h2
    rw [if_neg (by omega)]
    exact (cmpI_neg x z).2 (by omega)
def ltC (x y : List Int × Int) : Bool := if x.2 = y.2 then decide (lexC x.1 y.1 < 0) else decide (x.2 < y.2)
theorem ltC_irr (x : List Int × Int) : ltC x x = false := by unfold ltC; rw [if_pos rfl, lexC_self]; rfl
theorem ltC_tr {x y z : List Int × Int} (h1 : ltC x y = true) (h2 : ltC y z = true) : ltC x z = true := by
 unfold ltC at *
 by_cases a : x.2 = y.2
 ·rw [if_pos a, decide_eq_true_eq] at h1
  by_cases b : y.2 = z.2
  ·rw [if_pos b, decide_eq_true_eq] at h2
   rw [if_pos (a.trans b), decide_eq_true_eq]; exact lexC_tr h1 h2
  ·rw [if_neg b, decide_eq_true_eq] at h2
   rw [if_neg (by omega), decide_eq_true_eq]; omega
 ·rw [if_neg a, decide_eq_true_eq] at h1
  by_cases b : y.2 = z.2
  ·rw [if_neg (by omega), decide_eq_true_eq]; omega
  ·rw [if_neg b, decide_eq_true_eq] at h2
   rw [if_neg (by omega), decide_eq_true_eq]; omega
theorem ltC_tot {x y : List Int × Int} (h1 : ltC x y = false) (h2 : ltC y x = false) : x = y := by
 unfold ltC at *
 by_cases a : x.2 = y.2
 ·rw [if_pos a, decide_eq_false_iff_not] at h1
  rw [if_pos a.symm, decide_eq_false_iff_not] at h2
  rw [lexC_swap x.1 y.1] at h2
  exact Prod.ext (lexC_zero (by omega)) a
 ·rw [if_neg a, decide_eq_false_iff_not] at h1
  rw [if_neg (fun h => a h.symm), decide_eq_false_iff_not] at h2
  omega
def ltP (arcs : List Arc) (a b : List Int) : Bool := ltC (a, sumV arcs a) (b, sumV arcs b)
theorem ltP_irr (arcs : List Arc) (x : List Int) : ltP arcs x x = false := ltC_irr _
theorem ltP_tr {arcs : List Arc} {x y z : List Int} (h1 : ltP arcs x y = true) (h2 : ltP arcs y z = true) : ltP arcs x z = true := ltC_tr h1 h2
theorem ltP_tot {arcs : List Arc} {x y : List Int} (h1 : ltP arcs x y = false) (h2 : ltP arcs y x = false) : x = y := congrArg Prod.fst (ltC_tot h1 h2)
theorem ltP_asym {arcs : List Arc} {x y : List Int} (h1 : ltP arcs x y = true) : ltP arcs y x = false := by
 cases h : ltP arcs y x with
 | false => rfl
 | true => have := ltP_tr h1 h; rw [ltP_irr] at this; cases this
theorem ltP_le {arcs : List Arc} {x y z : List Int} (h1 : ltP arcs x y = true) (h2 : ltP arcs z y = false) : ltP arcs x z = true := by
 cases h : ltP arcs x z with
 | true => rfl
 | false =>
  cases h3 : ltP arcs z x with
  | true => have := ltP_tr h3 h1; rw [this] at h2; cases h2
  | false => rw [ltP_tot h h3] at h1; rw [h1] at h2; cases h2
def insP (arcs : List Arc) (x : List Int) : List (List Int) → List (List Int)
 | [] => [x]
 | y :: l => if ltP arcs x y then x :: y :: l else y :: insP arcs x l
def sortP (arcs : List Arc) (l : List (List Int)) : List (List Int) := l.foldl (fun out x => insP arcs x out) []
def Asc (arcs : List Arc) (l : List (List Int)) : Prop := l.Pairwise fun a b => ltP arcs b a = false
theorem ins_perm (arcs : List Arc) (x : List Int) : ∀ l, (insP arcs x l).Perm (x :: l)
 | [] => .refl _
 | y :: l => by
  unfold insP
  split
  ·exact .refl _
  ·exact ((ins_perm arcs x l).cons y).trans (.swap x y l)
theorem ins_asc {arcs : List Arc} {x : List Int} : ∀ {l}, Asc arcs l → Asc arcs (insP arcs x l)
 | [], _ => List.pairwise_singleton _ _
 | y :: l, h => by
  obtain ⟨h1, h2⟩ := List.pairwise_cons.1 h
  unfold insP
  split
  ·rename_i hx
   refine List.pairwise_cons.2 ⟨fun z hz => ?_, h⟩
   rcases List.mem_cons.1 hz with rfl | hz
   ·exact ltP_asym hx
   ·exact ltP_asym (ltP_le hx (h1 z hz))
  ·rename_i hx
   refine List.pairwise_cons.2 ⟨fun z hz => ?_, ins_asc h2⟩
   rcases List.mem_cons.1 ((ins_perm arcs x l).mem_iff.1 hz) with rfl | hz
   ·exact Bool.eq_false_iff.2 hx
   ·exact h1 z hz
theorem sort_foldl (arcs : List Arc) : ∀ (l out : List (List Int)), Asc arcs out → Asc arcs (l.foldl (fun out x => insP arcs x out) out) ∧ (l.foldl (fun out x => insP arcs x out) out).Perm (out ++ l)
 | [], out, h => ⟨h, by simp⟩
 | x :: l, out, h => by
  obtain ⟨h1, h2⟩ := sort_foldl arcs l (insP arcs x out) (ins_asc h)
  refine ⟨h1, h2.trans ?_⟩
  exact ((ins_perm arcs x out).append_right l).trans (by simpa using (List.perm_middle (a := x) (l₁ := out) (l₂ := l)).symm)
theorem sort_asc (arcs : List Arc) (l : List (List Int)) : Asc arcs (sortP arcs l) := (sort_foldl arcs l [] List.Pairwise.nil).1
theorem sort_perm (arcs : List Arc) (l : List (List Int)) : (sortP arcs l).Perm l := by have := (sort_foldl arcs l [] List.Pairwise.nil).2; rw [List.nil_append] at this; exact this
structure PosP (arcs : List Arc) (x : List Int) (out : List (List Int)) (p : Nat) : Prop where
 le : p ≤ out.length
 lo : ∀ (i : Nat) (y : List Int), i < p → out[i]? = some y → ltP arcs x y = false
 hi : ∀ (i : Nat) (y : List Int), p ≤ i → out[i]? = some y → ltP arcs x y = true
end Go.Proofs.C10
end
section
namespace Go.Proofs.C10
open Go Go.Proofs.R
set_option linter.unusedVariables false
theorem beq_cmp (a b : Int) : (cmpI a b != 0) = decide (a ≠ b) := by
 rw [bne_dec]
 by_cases h : a = b
 ·subst h
  have : cmpI a a = 0 := by unfold cmpI; simp
  rw [this]; simp
 ·rw [decide_eq_true h]
  rcases cmpI_ne h with ⟨h1, _⟩ | ⟨h1, _⟩ <;> (rw [h1]; rfl)
theorem slCompare_eq (a b : List Int) (ha : a.length < 4611686018427387904) : slices_Compare_int_int.f a b = some (lexC a b, ()) := by
  rw [slices_Compare_int_int.f_eq]
  have key := loop_pr a (fun j l => ∀ m, (∀ k : Nat, (k : Int) = j → b.drop k = m) → j.toNat ≤ b.length → slices_Compare_int_int.l2 a b a (a.length : Nat) j = some (lexC l m, ())) ?_ ?_
  · exact key b (fun k hk => by have : k = 0 := by omega
                                subst this; rfl) (Nat.zero_le _)
  · intro m hm hle
    have hmm := hm a.length rfl
    rw [slices_Compare_int_int.l2_eq, ifB_neg (by omega)]
    rw [Int.toNat_natCast] at hle
    cases m with
    | nil =>
      have : b.length ≤ a.length := by have := congrArg List.length hmm; simp only [List.length_drop, List.length_nil] at this; omega
      rw [ifB_neg (by omega)]; rfl
    | cons y m =>
      have : a.length < b.length := by have := congrArg List.length hmm; simp only [List.length_drop, List.length_cons] at this; omega
      rw [ifB_pos (by omega)]; rfl
  · intro j x hj ih m hm hle
    have hlt := (List.getElem?_eq_some_iff.1 hj).1
    have hmm := hm j rfl
    rw [Int.toNat_natCast] at hle
    rw [slices_Compare_int_int.l2_eq, ifB_pos (by omega), ixN hj, wrap_succ (by omega)]
    simp only [bindD, Option.bind_some]
    cases m with
    | nil =>
      have : b.length = j := by have := congrArg List.length hmm; simp only [List.length_drop, List.length_nil] at this; omega
      rw [ifB_pos (by omega)]; rfl
    | cons y m =>
      have hjb : j < b.length := by have := congrArg List.length hmm; simp only [List.length_drop, List.length_cons] at this; omega
      rw [List.drop_eq_getElem_cons hjb] at hmm
      obtain ⟨hy, hm'⟩ := List.cons.inj hmm
      rw [ifB_neg (by omega), ixN (x := y) (by rw [List.getElem?_eq_getElem hjb, hy])]
      simp only [Option.bind_some, compare_eq, beq_cmp]
      unfold lexC
      by_cases h : x = y
      · rw [decide_eq_false (by simpa using h), ifB_false, if_pos h]
        exact ih m (fun k hk => by have : k = j + 1 := by omega
                                   subst this; exact hm') (by rw [Int.toNat_natCast]; omega)
      · rw [decide_eq_true h, ifB_true, if_neg h]
theorem or_eq (a b : Int) : cmp_Or_int.f [a, b] = some (if a ≠ 0 then a else b, ()) := by
 have h2 : cmp_Or_int.l3 0 [a, b] 2 2 = some (0, ()) := by rw [cmp_Or_int.l3_eq]; rfl
 have h1 : cmp_Or_int.l3 0 [a, b] 2 1 = some (b, ()) := by
  rw [cmp_Or_int.l3_eq, ifB_pos (by omega), show IntKind.i64.wrap (1 + 1) = 2 from rfl]
  simp only [show ixAt [a, b] 1 = some b from rfl, bindD, Option.bind_some, bne_dec]
  by_cases h : b = 0
  ·rw [decide_eq_true h]; show cmp_Or_int.l3 0 [a, b] 2 2 = _; rw [h2, h]
  ·rw [decide_eq_false h]; rfl
 have hl : ((List.length [a, b] : Nat) : Int) = 2 := rfl
 rw [cmp_Or_int.f_eq, hl, cmp_Or_int.l3_eq, ifB_pos (by omega), show IntKind.i64.wrap (0 + 1) = 1 from rfl]
 simp only [show ixAt [a, b] 0 = some a from rfl, bindD, Option.bind_some, bne_dec]
 by_cases h : a = 0
 ·rw [decide_eq_true h, if_neg (by simpa using h)]; exact h1
 ·rw [decide_eq_false h, if_pos h]; rfl
def cfC (x y : List Int × Int) : Int := if cmpI x.2 y.2 ≠ 0 then cmpI x.2 y.2 else lexC x.1 y.1
theorem order_eq (x y : List Int × Int) (h : x.1.length < 4611686018427387904) : route_order.f x.1 x.2 y.1 y.2 = some (cfC x y, ()) := by
 rw [route_order.f_eq, compare_eq, slCompare_eq _ _ h]
 simp only [bindD, Option.bind_some, or_eq]; rfl
theorem cfC_lt (x y : List Int × Int) : cfC x y < 0 ↔ ltC x y = true := by
 unfold cfC ltC
 by_cases h : x.2 = y.2
 ·have h0 : cmpI x.2 y.2 = 0 := by rw [h]; unfold cmpI; simp
  rw [if_neg (by simpa using h0), if_pos h, decide_eq_true_eq]
 ·rw [if_neg h, decide_eq_true_eq]
  rcases cmpI_ne h with ⟨h1, h2⟩ | ⟨h1, h2⟩
  ·rw [if_pos (by omega), h1]; simp [h2]
  ·rw [if_pos (by omega), h1]
   constructor
   ·intro h; omega
   ·intro h; omega
def allR (n : Int) (arcs : List Arc) : List (List Int × Int) × (Int × Unit) :=
 if (pathsR n arcs).2.1 = 0 then ((sortP arcs (AP n arcs 0)).map fun q => (q, sumV arcs q), (0, ())) else ([], ((pathsR n arcs).2.1, ()))
theorem pathsR_ok {n : Int} {arcs : List Arc} (h : (pathsR n arcs).2.1 = 0) : errV n arcs = 0 ∧ (AP n arcs 0).length ≤ 2000 ∧ pathsR n arcs = (AP n arcs 0, (0, ())) := by
 unfold pathsR at h ⊢
 by_cases he : errV n arcs = 0
 ·rw [if_pos he] at h ⊢
  by_cases h1 : (AP n arcs 0).length > 2000
  ·rw [if_pos h1] at h; cases h
  ·rw [if_neg h1]; exact ⟨he, by omega, rfl⟩
 ·rw [if_neg he] at h; exact absurd h he
theorem all_eq (n : Int) (arcs : List Arc) : route_all.f n arcs = some (allR n arcs) := by
 rw [route_all.f_eq, paths_eq]
 simp only [bindD, Option.bind_some, bne_dec]
 unfold allR
 by_cases hz : (pathsR n arcs).2.1 = 0
 ·obtain ⟨he, hsz, hpr⟩ := pathsR_ok hz
  have hg := vg_of he
  have hpos := hg.pos
  have hmost := hg.most
  rw [decide_eq_true hz, if_pos hz, hpr]
  simp only [Bool.not_true, ifB_false]
  have hcost : ∀ (p : List Int), pathB n arcs 0 p = true → ∀ (j m : Int) (out : List (List Int × Int)), m = ((AP n arcs 0).length : Nat) → out.length < 4000 →
    route_all.l10 p 0 m j p (p.length : Nat) 0 n arcs out (AP n arcs 0) = route_all.l6 m (IntKind.i64.wrap (j + 1)) n arcs (out ++ [(p, sumV arcs p)]) (AP n arcs 0) := by
   intro p hp j m out hm hout
   obtain ⟨k1, k2, k3⟩ := path_len hg hp (by omega) (by omega)
   have hmem := path_mem hp
   have hnn : ∀ l : List Int, (∀ j ∈ l, 0 ≤ j ∧ j < arcs.length) → 0 ≤ sumV arcs l := by
    intro l
    induction l with
    | nil => intro _; simp [sumV]
    | cons j l ih =>
     intro h
     obtain ⟨j0, j1⟩ := h j List.mem_cons_self
     have hj := hg.arc _ (ga_mem j0 j1)
     have := ih fun k hk => h k (List.mem_cons_of_mem _ hk)
     rw [sumV_cons]; omega
   have key := loop_pr p (fun t l => ∀ s : Int, (∀ y ∈ l, y ∈ p) → 0 ≤ s → s + sumV arcs l ≤ 2000000000 → route_all.l10 p s m j p (p.length : Nat) t n arcs out (AP n arcs 0) = route_all.l6 m (IntKind.i64.wrap (j + 1)) n arcs (out ++ [(p, s + sumV arcs l)]) (AP n arcs 0)) ?_ ?_
   ·rw [key 0 (fun _ h => h) (by omega) (by omega), Int.zero_add]
   ·intro s _ _ _
    rw [route_all.l10_eq, ifB_neg (by omega), grow_ok (by simp only [List.length_cons, List.length_nil]; omega)]
    simp [bindD, sumV_nil]
   ·intro t x ht ih s hin hs0 hs
    have hlt := (List.getElem?_eq_some_iff.1 ht).1
    obtain ⟨x0, x1⟩ := hmem x (List.mem_of_getElem? ht)
    have hx := hg.arc _ (ga_mem x0 x1)
    have hr := hnn (p.drop (t + 1)) (fun y hy => hmem y (List.mem_of_mem_drop hy))
    rw [sumV_cons] at hs ⊢
    rw [route_all.l10_eq, ifB_pos (by omega), ixN ht, wrap_succ (by omega)]
    simp only [bindD, Option.bind_some]
    rw [ixAt_ga x0 x1]
    simp only [Option.bind_some]
    rw [wrap_in (x := s + (ga arcs x).2.2) (by omega) (by omega), ih _ (fun y hy => hin y (List.mem_cons_of_mem _ hy)) (by omega) (by omega)]
    rw [Int.add_assoc]
  have key := loop_pr (AP n arcs 0) (fun t l => (∀ q ∈ l, q ∈ AP n arcs 0) → ∀ out : List (List Int × Int), out.length + l.length ≤ 2000 →
   route_all.l6 ((AP n arcs 0).length : Nat) t n arcs out (AP n arcs 0) = route_all.l6 ((AP n arcs 0).length : Nat) ((AP n arcs 0).length : Nat) n arcs (out ++ l.map fun q => (q, sumV arcs q)) (AP n arcs 0)) ?_ ?_
  ·rw [key (fun _ h => h) [] (by simpa using hsz), List.nil_append, route_all.l6_eq, ifB_neg (by omega), grow_ok (by simp only [List.length_map]; omega)]
   simp only [bindD, Option.bind_some]
   rw [sortB_total (cf := cfC) (lt := ltC) (r := (sortP arcs (AP n arcs 0)).map fun q => (q, sumV arcs q)) ?_ cfC_lt ltC_irr (fun _ _ _ => ltC_tr) (fun _ _ => ltC_tot) ((sort_perm arcs _).map _) ?_]
   ·rfl
   ·intro x hx y hy
    obtain ⟨q, hq, rfl⟩ := List.mem_map.1 hx
    have := AP_len hg (v := 0) (by omega) (by omega) hq
    rw [order_eq _ _ (show q.length < _ by omega)]; rfl
   ·exact List.pairwise_map.2 (sort_asc arcs (AP n arcs 0))
  ·intro _ out _
   simp
  ·intro t q ht ih hin out ho
   have hlt := (List.getElem?_eq_some_iff.1 ht).1
   have hq := (AP_path hg (v := 0) (by omega) (by omega)).1 (hin q List.mem_cons_self)
   simp only [List.length_cons] at ho
   rw [route_all.l6_eq, ifB_pos (by omega), ixN ht]
   simp only [bindD, Option.bind_some]
   rw [hcost q hq t _ out rfl (by omega), wrap_succ (by omega), ih (fun r hr => hin r (List.mem_cons_of_mem _ hr)) _ (by simp only [List.length_append, List.length_cons, List.length_nil]; omega)]
   simp
 ·rw [decide_eq_false hz, if_neg hz]; rfl
end Go.Proofs.C10
end
section
namespace Go.Proofs.C10
open Go Go.Proofs.R
set_option linter.unusedVariables false
end Go.Proofs.C10
end
section
namespace Go.Proofs.C10
open Go Go.Proofs.R
set_option linter.unusedVariables false
theorem equal_eq (a b : List Int) (h : a.length < 4611686018427387904) : slices_Equal_int_int.f a b = some (decide (a = b), ()) := by
  rw [slices_Equal_int_int.f_eq, bne_dec]
  by_cases hl : a.length = b.length
  · rw [decide_eq_true (by omega), Bool.not_true, ifB_false]
    have key := loop_pr a (fun j l => ∀ m, (∀ k : Nat, (k : Int) = j → b.drop k = m) → l.length = m.length → slices_Equal_int_int.l4 a b (a.length : Nat) j = some (decide (l = m), ())) ?_ ?_
    · exact key b (fun k hk => by have : k = 0 := by omega
                                  subst this; rfl) hl
    · intro m _ hm
      have : m = [] := List.eq_nil_of_length_eq_zero hm.symm
      subst this
      rw [slices_Equal_int_int.l4_eq, ifB_neg (by omega)]; rfl
    · intro j x hj ih m hm hlen
      have hlt := (List.getElem?_eq_some_iff.1 hj).1
      have hmm := hm j rfl
      cases m with
      | nil => simp at hlen
      | cons y m =>
        have hjb : j < b.length := by omega
        rw [List.drop_eq_getElem_cons hjb] at hmm
        obtain ⟨hy, hm'⟩ := List.cons.inj hmm
        rw [slices_Equal_int_int.l4_eq, ifB_pos (by omega), ixN hj, ixN (xs := b) (x := y) (by rw [List.getElem?_eq_getElem hjb, hy]), wrap_succ (by omega)]
        simp only [bindD, Option.bind_some, bne_dec]
        by_cases he : x = y
        · rw [decide_eq_true he, Bool.not_true, ifB_false, ih m (fun k hk => by have : k = j + 1 := by omega
                                                                                subst this; exact hm') (by simpa using hlen)]
          subst he; simp
        · rw [decide_eq_false he, Bool.not_false, ifB_true, decide_eq_false (by intro h; exact he (List.cons.inj h).1)]
  · rw [decide_eq_false (by omega), Bool.not_false, ifB_true, decide_eq_false (by rintro rfl; exact hl rfl)]
theorem ints_eq (a b : List Int) (h : a.length < 4611686018427387904) : ancepsref09_Ints.f a b = some (decide (a = b), ()) := by
  rw [ancepsref09_Ints.f_eq, bne_dec]
  by_cases hl : a.length = b.length
  · rw [decide_eq_true (by omega), Bool.not_true, ifB_false]
    have key := loop_pr a (fun j l => ∀ m, (∀ k : Nat, (k : Int) = j → b.drop k = m) → l.length = m.length → ancepsref09_Ints.l4 a b j = some (decide (l = m), ())) ?_ ?_
    · exact key b (fun k hk => by have : k = 0 := by omega
                                  subst this; rfl) hl
    · intro m _ hm
      have : m = [] := List.eq_nil_of_length_eq_zero hm.symm
      subst this
      rw [ancepsref09_Ints.l4_eq, ifB_neg (by omega)]; rfl
    · intro j x hj ih m hm hlen
      have hlt := (List.getElem?_eq_some_iff.1 hj).1
      have hmm := hm j rfl
      cases m with
      | nil => simp at hlen
      | cons y m =>
        have hjb : j < b.length := by omega
        rw [List.drop_eq_getElem_cons hjb] at hmm
        obtain ⟨hy, hm'⟩ := List.cons.inj hmm
        rw [ancepsref09_Ints.l4_eq, ifB_pos (by omega), ixN hj, ixN (xs := b) (x := y) (by rw [List.getElem?_eq_getElem hjb, hy]), wrap_succ (by omega)]
        simp only [bindD, Option.bind_some, bne_dec]
        by_cases he : x = y
        · rw [decide_eq_true he, Bool.not_true, ifB_false, ih m (fun k hk => by have : k = j + 1 := by omega
                                                                                subst this; exact hm') (by simpa using hlen)]
          subst he; simp
        · rw [decide_eq_false he, Bool.not_false, ifB_true, decide_eq_false (by intro h; exact he (List.cons.inj h).1)]
  · rw [decide_eq_false (by omega), Bool.not_false, ifB_true, decide_eq_false (by rintro rfl; exact hl rfl)]
theorem lists_eq (a b : List (List Int)) (h : a.length < 4611686018427387904) (hq : ∀ q ∈ a, q.length < 4611686018427387904) : ancepsref09_Lists.f a b = some (decide (a = b), ()) := by
  rw [ancepsref09_Lists.f_eq, bne_dec]
  by_cases hl : a.length = b.length
  · rw [decide_eq_true (by omega), Bool.not_true, ifB_false]
    have key := loop_pr a (fun j l => ∀ m, (∀ k : Nat, (k : Int) = j → b.drop k = m) → l.length = m.length → ancepsref09_Lists.l4 a b j = some (decide (l = m), ())) ?_ ?_
    · exact key b (fun k hk => by have : k = 0 := by omega
                                  subst this; rfl) hl
    · intro m _ hm
      have : m = [] := List.eq_nil_of_length_eq_zero hm.symm
      subst this
      rw [ancepsref09_Lists.l4_eq, ifB_neg (by omega)]; rfl
    · intro j x hj ih m hm hlen
      have hlt := (List.getElem?_eq_some_iff.1 hj).1
      have hmm := hm j rfl
      cases m with
      | nil => simp at hlen
      | cons y m =>
        have hjb : j < b.length := by omega
        rw [List.drop_eq_getElem_cons hjb] at hmm
        obtain ⟨hy, hm'⟩ := List.cons.inj hmm
        rw [ancepsref09_Lists.l4_eq, ifB_pos (by omega), ixN hj, ixN (xs := b) (x := y) (by rw [List.getElem?_eq_getElem hjb, hy]), wrap_succ (by omega)]
        simp only [bindD, Option.bind_some]
        rw [ints_eq x y (hq x (List.mem_of_getElem? hj))]
        simp only [Option.bind_some]
        by_cases he : x = y
        · rw [decide_eq_true he, Bool.not_true, ifB_false, ih m (fun k hk => by have : k = j + 1 := by omega
                                                                                subst this; exact hm') (by simpa using hlen)]
          subst he; simp
        · rw [decide_eq_false he, Bool.not_false, ifB_true, decide_eq_false (by intro h; exact he (List.cons.inj h).1)]
  · rw [decide_eq_false (by omega), Bool.not_false, ifB_true, decide_eq_false (by rintro rfl; exact hl rfl)]
def S (n : Int) (arcs : List Arc) : List (List Int) := sortP arcs (AP n arcs 0)
theorem S_len (n : Int) (arcs : List Arc) : (S n arcs).length = (AP n arcs 0).length := (sort_perm arcs _).length_eq
theorem S_path {n : Int} {arcs : List Arc} (hg : VG n arcs) {q : List Int} : q ∈ S n arcs ↔ pathB n arcs 0 q = true := by
 have := hg.pos
 unfold S
 rw [(sort_perm arcs _).mem_iff]; exact AP_path hg (by omega) (by omega)
theorem S_short {n : Int} {arcs : List Arc} (hg : VG n arcs) {q : List Int} (h : q ∈ S n arcs) : q.length ≤ 2000 := by
 have := hg.pos
 have := hg.most
 have := (path_len hg ((S_path hg).1 h) (by omega) (by omega)).1
 omega
theorem subL_take {α : Type} (xs : List α) {k : Int} (h0 : 0 ≤ k) : subL xs 0 (if ((xs.length : Nat) : Int) < k then ((xs.length : Nat) : Int) else k) = some (xs.take k.toNat) := by
 by_cases hk : ((xs.length : Nat) : Int) < k
 ·rw [if_pos hk]
  unfold subL
  rw [if_pos ⟨by omega, by omega, by omega⟩, Int.toNat_natCast, List.take_length, List.take_of_length_le (by omega)]; rfl
 ·rw [if_neg hk]
  unfold subL
  rw [if_pos ⟨by omega, by omega, by omega⟩]; rfl
def listR (n : Int) (arcs : List Arc) (k : Int) : List (List Int) × (Int × Unit) :=
 if errV n arcs = 0 then (if k < 0 ∨ k > 2000 then ([], (6, ())) else if (pathsR n arcs).2.1 = 0 then ((S n arcs).take k.toNat, (0, ())) else ([], ((pathsR n arcs).2.1, ()))) else ([], (errV n arcs, ()))
theorem list_eq (n : Int) (arcs : List Arc) (k : Int) : route_List.f n arcs k = some (listR n arcs k) := by
 rw [route_List.f_eq, valid_eq]
 simp only [bindD, Option.bind_some, bne_dec]
 unfold listR
 by_cases he : errV n arcs = 0
 ·rw [decide_eq_true he, if_pos he, Bool.not_true, ifB_false]
  by_cases h1 : k < 0
  ·rw [ifB_pos h1, if_pos (.inl h1)]
  rw [ifB_neg h1]
  by_cases h2 : k > 2000
  ·rw [ifB_pos h2, if_pos (.inr h2)]
  rw [ifB_neg h2, if_neg (by omega), all_eq]
  simp only [Option.bind_some]
  unfold allR
  by_cases hz : (pathsR n arcs).2.1 = 0
  ·obtain ⟨_, hsz, _⟩ := pathsR_ok hz
   have hsl := S_len n arcs
   rw [if_pos hz, if_pos hz]
   simp only [decide_true, Bool.not_true, ifB_false]
   rw [subL_take _ (by omega)]
   simp only [Option.bind_some]
   obtain ⟨xs, hxs⟩ : ∃ xs, xs = (((sortP arcs (AP n arcs 0)).map fun q => (q, sumV arcs q)).take k.toNat) := ⟨_, rfl⟩
   have hlx : xs.length ≤ 2000 := by rw [hxs, List.length_take, List.length_map]; omega
   have hmx : xs.map Prod.fst = (S n arcs).take k.toNat := by
    rw [hxs, ← List.map_take, List.map_map]
    show List.map id _ = _
    rw [List.map_id]; rfl
   rw [← hxs, ← hmx]
   have key := loop_pr xs (fun j l => ∀ out : List (List Int), out.length + l.length ≤ 2000 → route_List.l11 xs (xs.length : Nat) j out = some (out ++ l.map Prod.fst, (0, ()))) ?_ ?_
   ·exact key [] (by simpa using hlx)
   ·intro out _
    rw [route_List.l11_eq, ifB_neg (by omega)]; simp
   ·intro j x hj ih out ho
    have hlt := (List.getElem?_eq_some_iff.1 hj).1
    simp only [List.length_cons] at ho
    rw [route_List.l11_eq, ifB_pos (by omega), ixN hj, wrap_succ (by omega)]
    simp only [bindD, Option.bind_some]
    rw [grow_ok (by simp only [List.length_cons, List.length_nil]; omega)]
    simp only [Option.bind_some]
    rw [ih _ (by simp only [List.length_append, List.length_cons, List.length_nil]; omega)]
    simp
  ·rw [if_neg hz, if_neg hz]
   simp only [decide_eq_false hz, Bool.not_false, ifB_true]
 ·rw [decide_eq_false he, if_neg he]; rfl
/-! ### ranks -/
def rankR (n : Int) (arcs : List Arc) (path : List Int) : Int × (Int × Unit) :=
 if errV n arcs = 0 then (if pathB n arcs 0 path = true then (if (pathsR n arcs).2.1 = 0 then (((S n arcs).findIdx fun q => decide (q = path) : Nat), (0, ())) else (0, ((pathsR n arcs).2.1, ()))) else (0, (1, ()))) else (0, (errV n arcs, ()))
theorem findIdx_at {l : List (List Int)} {p : List Int} : ∀ (j : Nat) (x : List Int) (r : List (List Int)), l = l.take j ++ x :: r → j < l.length → (∀ q ∈ l.take j, q ≠ p) → x = p → l.findIdx (fun q => decide (q = p)) = j := by
 intro j x r hl hj hn hx
 rw [List.findIdx_eq hj]
 have h1 : l[j] = x := by
  have : l[j]? = some x := by
   conv => lhs; rw [hl]
   rw [List.getElem?_append_right (by rw [List.length_take]; omega), List.length_take, show j - min j l.length = 0 by omega]; rfl
  rw [List.getElem?_eq_getElem hj] at this; exact Option.some.inj this
 refine ⟨by rw [h1]; simp [hx], fun i hi => ?_⟩
 have : l[i] ∈ l.take j := by
  rw [List.mem_take_iff_getElem]
  exact ⟨i, by omega, rfl⟩
 simp [hn _ this]
theorem find_loop {β : Type} (l : List (List Int)) (path : List Int) (hmem : path ∈ l) (hl : l.length ≤ 2000) (L : Int → Option β) (r : Nat → Option β)
  (hs : ∀ (j : Nat) (x : List Int), l[j]? = some x → L (j : Int) = if x = path then r j else L ((j + 1 : Nat) : Int)) : L 0 = r (l.findIdx fun q => decide (q = path)) := by
 have key : ∀ (d j : Nat), l.length - j = d → j ≤ l.length → (∀ q ∈ l.take j, q ≠ path) → L (j : Int) = r (l.findIdx fun q => decide (q = path)) := by
  intro d
  induction d with
  | zero =>
   intro j hd hj hn
   have : j = l.length := by omega
   subst this
   rw [List.take_length] at hn
   exact absurd rfl (hn path hmem)
  | succ d ih =>
   intro j hd hj hn
   have hjl : j < l.length := by omega
   have hx : l[j]? = some l[j] := List.getElem?_eq_getElem hjl
   rw [hs j _ hx]
   split
   ·rename_i he
    rw [findIdx_at j l[j] (l.drop (j + 1)) (by rw [← List.drop_eq_getElem_cons hjl, List.take_append_drop]) hjl hn he]
   ·rename_i he
    refine ih (j + 1) (by omega) (by omega) ?_
    intro q hq
    rw [List.take_add_one, hx] at hq
    rcases List.mem_append.1 hq with hq | hq
    ·exact hn q hq
    ·simp at hq; rw [hq]; exact he
 exact key l.length 0 (by omega) (by omega) (by simp)
def placeR (n : Int) (arcs : List Arc) (path : List Int) : List (List Int × Int) × (Int × (Int × Unit)) :=
 ((if (rankR n arcs path).2.1 = 0 then (S n arcs).map fun q => (q, sumV arcs q) else []), rankR n arcs path)
theorem rank_cases (n : Int) (arcs : List Arc) (path : List Int) : ((rankR n arcs path).2.1 = 0 ∧ errV n arcs = 0 ∧ pathB n arcs 0 path = true ∧ (pathsR n arcs).2.1 = 0 ∧ rankR n arcs path = ((((S n arcs).findIdx fun q => decide (q = path) : Nat) : Int), ((0 : Int), ()))) ∨
  ((rankR n arcs path).2.1 ≠ 0 ∧ (rankR n arcs path).1 = 0 ∧ ((errV n arcs ≠ 0 ∧ (rankR n arcs path).2.1 = errV n arcs) ∨ (errV n arcs = 0 ∧ pathB n arcs 0 path = false ∧ (rankR n arcs path).2.1 = 1) ∨ (errV n arcs = 0 ∧ pathB n arcs 0 path = true ∧ (pathsR n arcs).2.1 ≠ 0 ∧ (rankR n arcs path).2.1 = (pathsR n arcs).2.1))) := by
 unfold rankR
 by_cases he : errV n arcs = 0
 ·rw [if_pos he]
  cases hp : pathB n arcs 0 path with
  | true =>
   rw [if_pos rfl]
   by_cases hz : (pathsR n arcs).2.1 = 0
   ·rw [if_pos hz]; exact .inl ⟨rfl, he, rfl, hz, rfl⟩
   ·rw [if_neg hz]; exact .inr ⟨hz, rfl, .inr (.inr ⟨he, rfl, hz, rfl⟩)⟩
  | false => rw [if_neg (by simp)]; exact .inr ⟨by simp, rfl, .inr (.inl ⟨he, rfl, rfl⟩)⟩
 ·rw [if_neg he]; exact .inr ⟨he, rfl, .inl ⟨he, rfl⟩⟩
theorem place_eq (n : Int) (arcs : List Arc) (path : List Int) (hl : path.length < 4611686018427387904) : route_place.f n arcs path = some (placeR n arcs path) := by
 rw [route_place.f_eq, valid_eq, check_eq path hl, all_eq]
 simp only [bindD, Option.bind_some, bne_dec]
 unfold placeR
 rcases rank_cases n arcs path with ⟨h1, he, hp, hz, hr⟩ | ⟨h1, h2, ⟨he, hr⟩ | ⟨he, hp, hr⟩ | ⟨he, hp, hz, hr⟩⟩
 ·rw [if_pos h1, decide_eq_true he, hp]
  simp only [Bool.not_true, ifB_false, Bool.and_self]
  have ha : allR n arcs = ((S n arcs).map (fun q => (q, sumV arcs q)), (0, ())) := by unfold allR; rw [if_pos hz]; rfl
  rw [ha]
  simp only [decide_true, Bool.not_true, ifB_false]
  obtain ⟨_, hsz, _⟩ := pathsR_ok hz
  have hg := vg_of he
  have hsl := S_len n arcs
  have key := find_loop (S n arcs) path ((S_path hg).2 hp) (by omega) (fun j => route_listed_61.l2 ((S n arcs).map fun q => (q, sumV arcs q)) path ((((S n arcs).map fun q => (q, sumV arcs q)).length : Nat) : Int) j) (fun j => some ((j : Int), ())) ?_
  ·rw [route_listed_61.f_eq, key, hr]; rfl
  ·intro j x hj
   have hlt := (List.getElem?_eq_some_iff.1 hj).1
   show route_listed_61.l2 _ _ _ _ = _
   rw [route_listed_61.l2_eq, ifB_pos (by simp only [List.length_map]; omega), ixN (x := (x, sumV arcs x)) (by rw [List.getElem?_map, hj]; rfl), wrap_succ (by omega)]
   simp only [bindD, Option.bind_some]
   rw [route_place_1.f_eq, equal_eq x path (by have := S_short hg (List.mem_of_getElem? hj); omega)]
   simp only [bindD, Option.bind_some, ifP]
 ·rw [if_neg h1, decide_eq_false he]
  simp only [Bool.not_false, ifB_true]
  congr 2
  exact Prod.ext h2.symm (Prod.ext hr.symm rfl)
 ·rw [if_neg h1, decide_eq_true he, hp]
  simp only [Bool.not_true, ifB_false, Bool.and_false, Bool.not_false, ifB_true]
  congr 2
  exact Prod.ext h2.symm (Prod.ext hr.symm rfl)
 ·rw [if_neg h1, decide_eq_true he, hp]
  have ha : allR n arcs = ([], ((pathsR n arcs).2.1, ())) := by unfold allR; rw [if_neg hz]
  rw [ha]
  simp only [Bool.not_true, ifB_false, Bool.and_self, decide_eq_false hz, Bool.not_false, ifB_true]
  congr 2
  exact Prod.ext h2.symm (Prod.ext hr.symm rfl)
theorem rank_eq (n : Int) (arcs : List Arc) (path : List Int) (hl : path.length < 4611686018427387904) : route_Rank.f n arcs path = some (rankR n arcs path) := by
 rw [route_Rank.f_eq, place_eq n arcs path hl]; rfl
def nextR (n : Int) (arcs : List Arc) (path : List Int) : List Int × (Int × Unit) :=
 if (rankR n arcs path).2.1 = 0 then (if (rankR n arcs path).1 + 1 = (S n arcs).length then ([], (10, ())) else ((S n arcs)[((rankR n arcs path).1 + 1).toNat]?.getD [], (0, ()))) else ([], ((rankR n arcs path).2.1, ()))
theorem rank_lt {n : Int} {arcs : List Arc} {path : List Int} (h : (rankR n arcs path).2.1 = 0) : 0 ≤ (rankR n arcs path).1 ∧ (rankR n arcs path).1 < (S n arcs).length ∧ (S n arcs).length ≤ 2000 ∧ (S n arcs)[(rankR n arcs path).1.toNat]? = some path := by
 rcases rank_cases n arcs path with ⟨h1, he, hp, hz, hr⟩ | ⟨h1, _⟩
 ·obtain ⟨_, hsz, _⟩ := pathsR_ok hz
  have hsl := S_len n arcs
  have hmem := (S_path (vg_of he)).2 hp
  have hlt : (S n arcs).findIdx (fun q => decide (q = path)) < (S n arcs).length := List.findIdx_lt_length.2 ⟨path, hmem, by simp⟩
  rw [hr]
  refine ⟨by simp, by simpa using hlt, by omega, ?_⟩
  show (S n arcs)[((((S n arcs).findIdx fun q => decide (q = path) : Nat)) : Int).toNat]? = _
  rw [Int.toNat_natCast, List.getElem?_eq_getElem hlt]
  have := List.findIdx_getElem (p := fun q => decide (q = path)) (xs := S n arcs) (w := hlt)
  simpa using this
 ·exact absurd h h1
theorem next_eq (n : Int) (arcs : List Arc) (path : List Int) (hl : path.length < 4611686018427387904) : route_Next.f n arcs path = some (nextR n arcs path) := by
 rw [route_Next.f_eq, place_eq n arcs path hl]
 unfold placeR nextR
 simp only [bindD, Option.bind_some, bne_dec]
 by_cases h : (rankR n arcs path).2.1 = 0
 ·obtain ⟨h0, h1, h2, h3⟩ := rank_lt h
  rw [if_pos h, if_pos h, decide_eq_true h]
  simp only [Bool.not_true, ifB_false, List.length_map]
  rw [wrap_in (x := (rankR n arcs path).1 + 1) (by omega) (by omega)]
  by_cases he : (rankR n arcs path).1 + 1 = ((S n arcs).length : Nat)
  ·have hb : ((rankR n arcs path).1 + 1 == (((S n arcs).length : Nat) : Int)) = true := by rw [beq_iff_eq]; exact he
   rw [if_pos he, hb]; rfl
  ·have hb : ((rankR n arcs path).1 + 1 == (((S n arcs).length : Nat) : Int)) = false := beq_eq_false_iff_ne.2 he
   rw [if_neg he, hb, ifB_false]
   obtain ⟨k, hk⟩ : ∃ k : Nat, (k : Int) = (rankR n arcs path).1 + 1 := ⟨((rankR n arcs path).1 + 1).toNat, by omega⟩
   rw [← hk, Int.toNat_natCast]
   have hkl : k < (S n arcs).length := by omega
   rw [ixN (x := ((S n arcs)[k], sumV arcs (S n arcs)[k])) (by rw [List.getElem?_map, List.getElem?_eq_getElem hkl]; rfl), List.getElem?_eq_getElem hkl]
   rfl
 ·rw [if_neg h, if_neg h, decide_eq_false h]; rfl
end Go.Proofs.C10
end
section
namespace Go.Proofs.C10
open Go Go.Proofs.R
set_option linter.unusedVariables false
set_option maxRecDepth 100000
theorem ways_ex : route_Ways.f 3 C10X.ex 2 = some ((0 : Int), ((0 : Int), ())) := (Einf_call ctx 32 _).trans (by kernel_rfl)
theorem best_ex : bestR 3 C10X.ex = ([0, 1], ([3, 1, 0], (0, ()))) := by kernel_rfl
theorem list_ex : listR 3 C10X.ex 5 = ([[0, 1], [2], [3, 1]], (0, ())) := by kernel_rfl
theorem rank_ex : rankR 3 C10X.ex [3, 1] = (2, (0, ())) := by kernel_rfl
theorem next_ex : nextR 3 C10X.ex [2] = ([3, 1], (0, ())) := by kernel_rfl
theorem check_ex : checkV 3 C10X.ex [0, 1] [3, 2, 0] = false := by kernel_rfl
theorem awake_eq : ancepslaw10_awake.f = some (true, ()) := by
 rw [ancepslaw10_awake.f_eq, ancepslaw10_example.f_eq]
 simp only [bindD, Option.bind_some]
 show (route_Best.f 3 C10X.ex).bind _ = _
 rw [best_eq, best_ex]
 show (route_List.f 3 C10X.ex 5).bind _ = _
 rw [list_eq, list_ex]
 show (route_Rank.f 3 C10X.ex [3, 1]).bind _ = _
 rw [rank_eq _ _ _ (by decide), rank_ex]
 show (route_Next.f 3 C10X.ex [2]).bind _ = _
 rw [next_eq _ _ _ (by decide), next_ex]
 show (route_Ways.f 3 C10X.ex 2).bind _ = _
 rw [ways_ex]
 show (slices_Equal_int_int.f [0, 1] [0, 1]).bind _ = _
 rw [equal_eq _ _ (by decide)]
 show (slices_Equal_int_int.f [3, 1, 0] [3, 1, 0]).bind _ = _
 rw [equal_eq _ _ (by decide)]
 show (ancepsref09_Lists.f [[0, 1], [2], [3, 1]] [[0, 1], [2], [3, 1]]).bind _ = _
 rw [lists_eq _ _ (by decide) (by decide)]
 show (slices_Equal_int_int.f [3, 1] [3, 1]).bind _ = _
 rw [equal_eq _ _ (by decide)]
 show (route_Check.f 3 C10X.ex [0, 1] [3, 2, 0]).bind _ = _
 rw [routeCheck_eq _ _ (by decide) (by decide), check_ex]
 rfl
theorem copied_eq (n : Int) (arcs : List Arc) (h : arcs.length ≤ 120) : ancepslaw10_copied.f n arcs = some (n, (arcs, ())) := by
 have h1 : api_Arc.f arcs = some (arcs, ()) := by rw [api_Arc.f_eq, grow_ok (by omega)]; rfl
 rw [ancepslaw10_copied.f_eq, h1]; rfl
theorem best_short (n : Int) (arcs : List Arc) : (bestR n arcs).1.length < 4611686018427387904 ∧ (bestR n arcs).2.1.length < 4611686018427387904 := by
 unfold bestR
 by_cases he : errV n arcs = 0
 ·rw [if_pos he]
  have hg := vg_of he
  have hpos := hg.pos
  have hmost := hg.most
  have hp := potP hg
  have hl := hp.len
  by_cases h0 : gi (potV n arcs) 0 < 0
  ·rw [if_pos h0]; exact ⟨by simp, by simp⟩
  ·rw [if_neg h0]
   obtain ⟨h1, _⟩ := best_path hg hp n.toNat 0 (by omega) (by omega) (by omega) (by omega)
   have := (path_len hg h1 (by omega) (by omega)).1
   exact ⟨by show (bestV n arcs (potV n arcs) n.toNat 0).length < _; omega, by show (potV n arcs).length < _; omega⟩
 ·rw [if_neg he]; exact ⟨by simp, by simp⟩
theorem cert_low {n : Int} {arcs : List Arc} (hg : VG n arcs) {p : List Int} (h0 : gi p (n - 1) = 0) (hb : (arcs.all fun a => !badA p a) = true) : ∀ {l : List Int} {a : Int}, pathB n arcs a l = true → 0 ≤ gi p a ∧ gi p a ≤ sumV arcs l
 | [], a, h => by
  simp only [pathB, beq_iff_eq] at h
  rw [h, h0, sumV_nil]; omega
 | i :: l, a, h => by
  simp only [pathB, Bool.and_eq_true, decide_eq_true_eq, beq_iff_eq] at h
  obtain ⟨⟨⟨i0, i1⟩, i2⟩, i3⟩ := h
  obtain ⟨k1, k2⟩ := cert_low hg h0 hb i3
  have := List.all_eq_true.1 hb _ (ga_mem i0 i1)
  rw [sumV_cons]
  unfold badA at this
  rw [i2] at this
  simp only [Bool.not_eq_true', Bool.or_eq_false_iff, Bool.and_eq_false_iff, decide_eq_false_iff_not] at this
  omega
theorem pot_bad {n : Int} {arcs : List Arc} (hg : VG n arcs) : (arcs.all fun a => !badA (potV n arcs) a) = true := by
 have hp := potP hg
 rw [List.all_eq_true]
 intro a ha
 obtain ⟨u, hu, rfl⟩ := List.mem_iff_getElem.1 ha
 have hga : ga arcs (u : Int) = arcs[u] := by unfold ga; rw [Int.toNat_natCast, List.getElem?_eq_getElem hu]; rfl
 have hlow := hp.low (u : Int) (by omega) (by omega)
 rw [hga] at hlow
 unfold badA
 by_cases h3 : gi (potV n arcs) arcs[u].2.1 ≥ 0
 ·obtain ⟨k1, k2⟩ := hlow h3
  rw [decide_eq_false (show ¬ gi (potV n arcs) arcs[u].1 < 0 by omega), decide_eq_false (show ¬ gi (potV n arcs) arcs[u].1 > arcs[u].2.2 + gi (potV n arcs) arcs[u].2.1 by omega)]
  simp
 ·rw [decide_eq_false h3]; simp
end Go.Proofs.C10
end
