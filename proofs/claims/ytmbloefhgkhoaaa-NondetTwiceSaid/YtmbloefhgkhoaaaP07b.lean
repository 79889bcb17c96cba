/- Automata with choices: sets of states, and what edges without a letter lead to. -/
import Derived.Test.YtmbloefhgkhoaaaP07a
set_option linter.unusedVariables false
set_option linter.unusedSimpArgs false
namespace Go.Proofs.C07
open Go Go.Proofs.R
open M (lt_at lt_end w_at app_at)
set_option linter.unusedVariables false
set_option linter.unusedSimpArgs false
set_option maxRecDepth 100000

abbrev LB := List Bool
def bat (B : LB) (s : Int) : Bool := (ixAt B s).getD false
theorem bat_nat (B : LB) (k : Nat) : bat B (k : Int) = (B[k]?).getD false := by unfold bat; rw [ixAt_nat]
theorem ix_bat {B : LB} {s : Int} {n : Nat} (hn : B.length = n) (h : 0 ≤ s ∧ s < (n : Int)) : ixAt B s = some (bat B s) := by
  obtain ⟨k, rfl⟩ : ∃ k : Nat, s = k := ⟨s.toNat, by omega⟩
  unfold bat
  rw [ixAt_nat, List.getElem?_eq_getElem (by omega)]; rfl
theorem bat_set {B : LB} {s t : Int} {n : Nat} (hn : B.length = n) (h : 0 ≤ s ∧ s < (n : Int)) (h2 : 0 ≤ t ∧ t < (n : Int)) (v : Bool) : bat (setRow B s v) t = if t = s then v else bat B t := by
  obtain ⟨k, rfl⟩ : ∃ k : Nat, s = k := ⟨s.toNat, by omega⟩
  obtain ⟨j, rfl⟩ : ∃ k : Nat, t = k := ⟨t.toNat, by omega⟩
  rw [bat_nat, bat_nat]; unfold setRow
  rw [Int.toNat_natCast, List.getElem?_set]
  by_cases hq : j = k
  · subst hq; rw [if_pos rfl, if_pos rfl, if_pos (by omega)]; rfl
  · rw [if_neg (Ne.symm hq), if_neg (by omega)]
theorem set_len (B : LB) (s : Int) (v : Bool) : (setRow B s v).length = B.length := by unfold setRow; rw [List.length_set]
theorem bat_ext {B C : LB} {n : Nat} (h1 : B.length = n) (h2 : C.length = n) (h : ∀ s : Int, 0 ≤ s ∧ s < (n : Int) → bat B s = bat C s) : B = C := by
  refine List.ext_getElem? fun i => ?_
  by_cases hi : i < n
  · have := h i (by omega)
    rw [bat_nat, bat_nat, List.getElem?_eq_getElem (by omega), List.getElem?_eq_getElem (by omega)] at this
    rw [List.getElem?_eq_getElem (by omega), List.getElem?_eq_getElem (by omega)]
    exact congrArg some this
  · rw [List.getElem?_eq_none (by omega), List.getElem?_eq_none (by omega)]

/-- the states of which a thing is so -/
noncomputable def flg (n : Nat) (X : Int → Prop) : LB := (List.range n).map fun (i : Nat) => @decide (X ((i : Nat) : Int)) (Classical.propDecidable _)
theorem flg_len (n : Nat) (X : Int → Prop) : (flg n X).length = n := by simp [flg]
theorem flg_bat {n : Nat} {X : Int → Prop} {s : Int} (h : 0 ≤ s ∧ s < (n : Int)) : bat (flg n X) s = true ↔ X s := by
  obtain ⟨k, rfl⟩ : ∃ k : Nat, s = k := ⟨s.toNat, by omega⟩
  rw [bat_nat]; unfold flg
  rw [List.getElem?_map, List.getElem?_range (by omega)]
  simp
theorem flg_of {n : Nat} {X : Int → Prop} {B : LB} (hn : B.length = n) (h : ∀ s : Int, 0 ≤ s ∧ s < (n : Int) → (bat B s = true ↔ X s)) : B = flg n X := by
  refine bat_ext hn (flg_len n X) fun s hs => ?_
  have h1 := h s hs
  have h2 := flg_bat (X := X) hs
  exact Bool.eq_iff_iff.2 (h1.trans h2.symm)
theorem flg_congr {n : Nat} {X Y : Int → Prop} (h : ∀ s : Int, 0 ≤ s ∧ s < (n : Int) → (X s ↔ Y s)) : flg n X = flg n Y :=
  flg_of (flg_len n X) fun s hs => (flg_bat hs).trans (h s hs)
theorem flg_emp (n : Nat) : List.replicate n false = flg n fun _ => False := by
  refine flg_of (by simp) fun s hs => ?_
  obtain ⟨k, rfl⟩ : ∃ k : Nat, s = k := ⟨s.toNat, by omega⟩
  rw [bat_nat, List.getElem?_replicate, if_pos (by omega)]; simp
theorem flg_set {n : Nat} {X : Int → Prop} {s : Int} (h : 0 ≤ s ∧ s < (n : Int)) : setRow (flg n X) s true = flg n fun t => X t ∨ t = s := by
  refine flg_of (by rw [set_len, flg_len]) fun t ht => ?_
  rw [bat_set (flg_len n X) h ht]
  by_cases hq : t = s
  · rw [if_pos hq]; simp [hq]
  · rw [if_neg hq, flg_bat ht]; simp [hq]

/-! the members of a set -/
def memL : LB → Nat → List Int
  | [], _ => []
  | b :: B, i => bif b then (i : Int) :: memL B (i + 1) else memL B (i + 1)
theorem mem_len : ∀ (B : LB) (i : Nat), (memL B i).length ≤ B.length
  | [], _ => Nat.le_refl _
  | b :: B, i => by have := mem_len B (i + 1); cases b <;> simp only [memL, cond_true, cond_false, List.length_cons] <;> omega
theorem mem_memL : ∀ (B : LB) (i : Nat) (s : Int), s ∈ memL B i ↔ ∃ k : Nat, k < B.length ∧ s = ((i + k : Nat) : Int) ∧ B[k]? = some true
  | [], i, s => by simp [memL]
  | b :: B, i, s => by
    have ih := mem_memL B (i + 1) s
    cases b
    · simp only [memL, cond_false, ih]
      constructor
      · rintro ⟨k, h1, h2, h3⟩; exact ⟨k + 1, by simp; omega, by omega, by simpa using h3⟩
      · rintro ⟨k, h1, h2, h3⟩
        cases k with
        | zero => simp at h3
        | succ k => exact ⟨k, by simpa using h1, by omega, by simpa using h3⟩
    · simp only [memL, cond_true, List.mem_cons, ih]
      constructor
      · rintro (rfl | ⟨k, h1, h2, h3⟩)
        · exact ⟨0, by simp, by simp, by simp⟩
        · exact ⟨k + 1, by simp; omega, by omega, by simpa using h3⟩
      · rintro ⟨k, h1, h2, h3⟩
        cases k with
        | zero => left; simpa using h2
        | succ k => right; exact ⟨k, by simpa using h1, by omega, by simpa using h3⟩
theorem mem_bat {B : LB} {n : Nat} (hn : B.length = n) (s : Int) : s ∈ memL B 0 ↔ (0 ≤ s ∧ s < (n : Int)) ∧ bat B s = true := by
  rw [mem_memL]
  constructor
  · rintro ⟨k, h1, rfl, h3⟩
    rw [Nat.zero_add, bat_nat, h3]; exact ⟨by omega, rfl⟩
  · rintro ⟨h1, h2⟩
    obtain ⟨k, rfl⟩ : ∃ k : Nat, s = k := ⟨s.toNat, by omega⟩
    refine ⟨k, by omega, by simp, ?_⟩
    rw [bat_nat, List.getElem?_eq_getElem (by omega)] at h2
    rw [List.getElem?_eq_getElem (by omega)]; exact congrArg some h2
theorem list_l3 : ∀ (suf pre : LB) (out : List Int), (pre ++ suf).length < 1000000 → out.length ≤ pre.length →
    nondet_set_list.l3 (pre ++ suf) ((pre ++ suf).length : Nat) (pre.length : Nat) out = some (out ++ memL suf pre.length, ())
  | [], pre, out, h, _ => by rw [nondet_set_list.l3_eq, ifB_not _ _ (lt_end pre)]; simp [memL]
  | b :: suf, pre, out, h, ho => by
    have hl : pre.length < 1000000 := by simp only [List.length_append] at h; omega
    have ih := fun o ho => list_l3 suf (pre ++ [b]) o (by rw [← app_at]; exact h) ho
    rw [nondet_set_list.l3_eq, ifB_of _ _ (lt_at pre b suf), ixAt_at, bindD_some, grow_one _ (by omega), bindD_some, w_pre pre b (by omega), app_at pre b suf]
    rw [ih (out ++ [_]) (by simp only [List.length_append, List.length_singleton]; omega), ih out (by simp only [List.length_append, List.length_singleton]; omega)]
    rw [List.length_append, List.length_singleton]
    cases b <;> simp [memL, ifB]
theorem list_f {B : LB} (h : B.length < 1000000) : nondet_set_list.f B = some (memL B 0, ()) := by
  have := list_l3 B [] [] h (Nat.le_refl _)
  rw [nondet_set_list.f_eq]; exact this
/-! what is reached -/
inductive Rch (E : List Ed) (X : Int → Prop) : Int → Prop
  | base {i : Int} : X i → Rch E X i
  | step {x : Ed} : x ∈ E → x.2.1 < 0 → Rch E X x.1 → Rch E X x.2.2
noncomputable def clo (n : Nat) (E : List Ed) (X : Int → Prop) : LB := flg n (Rch E X)
theorem Rch.mono {E : List Ed} {X Y : Int → Prop} (h : ∀ i, X i → Y i) : ∀ {i : Int}, Rch E X i → Rch E Y i := by
  intro i hi
  induction hi with
  | base hx => exact .base (h _ hx)
  | step h1 h2 _ ih => exact .step h1 h2 ih
theorem clo_congr {n : Nat} {E : List Ed} {X Y : Int → Prop} (h : ∀ i, X i ↔ Y i) : clo n E X = clo n E Y := by
  have : X = Y := funext fun i => propext (h i)
  rw [this]
theorem clo_len (n : Nat) (E : List Ed) (X : Int → Prop) : (clo n E X).length = n := flg_len _ _
/-- a set that is sound, and closed, is the closure -/
theorem clo_of {n : Nat} {E : List Ed} {X : Int → Prop} {B : LB} (hE : ∀ x ∈ E, (0 ≤ x.1 ∧ x.1 < (n : Int)) ∧ (0 ≤ x.2.2 ∧ x.2.2 < (n : Int))) (hX : ∀ i, X i → 0 ≤ i ∧ i < (n : Int)) (hn : B.length = n)
    (h1 : ∀ s : Int, 0 ≤ s ∧ s < (n : Int) → bat B s = true → Rch E X s) (h2 : ∀ s, X s → bat B s = true) (h3 : ∀ x ∈ E, x.2.1 < 0 → bat B x.1 = true → bat B x.2.2 = true) : B = clo n E X := by
  refine flg_of hn fun s hs => ⟨h1 s hs, fun h => ?_⟩
  have : ∀ {i : Int}, Rch E X i → bat B i = true := by
    intro i hi
    induction hi with
    | base hx => exact h2 _ hx
    | step a b _ ih => exact h3 _ a b ih
  exact this h
def falses (B : LB) : Nat := B.count false
theorem falses_set {B : LB} {n : Nat} {s : Int} (hn : B.length = n) (h : 0 ≤ s ∧ s < (n : Int)) (hf : bat B s = false) : falses (setRow B s true) + 1 = falses B := by
  obtain ⟨k, rfl⟩ : ∃ k : Nat, s = k := ⟨s.toNat, by omega⟩
  have hk : k < B.length := by omega
  rw [bat_nat, List.getElem?_eq_getElem hk] at hf
  have hf : B[k] = false := hf
  unfold falses setRow
  rw [Int.toNat_natCast]
  have e1 : B = B.take k ++ false :: B.drop (k + 1) := by
    rw [← hf, List.getElem_cons_drop hk, List.take_append_drop]
  have e2 : B.set k true = B.take k ++ true :: B.drop (k + 1) := List.set_eq_take_append_cons_drop.trans (by rw [if_pos hk])
  rw [e2]
  conv => rhs; rw [e1]
  simp [List.count_append]
  omega
theorem falses_le (B : LB) : falses B ≤ B.length := List.count_le_length

/-- edges that are within -/
def EdIn (n : Nat) (E : List Ed) : Prop := ∀ x ∈ E, (0 ≤ x.1 ∧ x.1 < (n : Int)) ∧ (0 ≤ x.2.2 ∧ x.2.2 < (n : Int)) ∧ -1 ≤ x.2.1
/-- the edges of each state -/
def gr (n : Nat) (E : List Ed) : List (List Ed) := (List.range n).map fun f => E.filter fun x => x.1 == ((f : Nat) : Int)
theorem gr_ix {n : Nat} {E : List Ed} {s : Int} (h : 0 ≤ s ∧ s < (n : Int)) : ixAt (gr n E) s = some (E.filter fun x => x.1 == s) := by
  obtain ⟨k, rfl⟩ : ∃ k : Nat, s = k := ⟨s.toNat, by omega⟩
  rw [ixAt_nat]; unfold gr
  rw [List.getElem?_map, List.getElem?_range (by omega)]; rfl
theorem gr_snoc {n : Nat} {E : List Ed} {x : Ed} (h : 0 ≤ x.1 ∧ x.1 < (n : Int)) : setRow (gr n E) x.1 ((E.filter fun y => y.1 == x.1) ++ [x]) = gr n (E ++ [x]) := by
  obtain ⟨k, hk⟩ : ∃ k : Nat, x.1 = k := ⟨x.1.toNat, by omega⟩
  unfold setRow gr
  refine List.ext_getElem? fun i => ?_
  rw [List.getElem?_set]
  simp only [List.length_map, List.length_range, List.getElem?_map]
  rw [hk, Int.toNat_natCast]
  by_cases hi : i < n
  · rw [List.getElem?_range hi]
    by_cases hq : k = i
    · subst hq
      rw [if_pos rfl, if_pos hi]
      simp only [Option.map_some, List.filter_append]
      simp [hk]
    · rw [if_neg hq]
      simp only [Option.map_some, List.filter_append]
      have : (x.1 == ((i : Nat) : Int)) = false := by rw [hk, beq_eq_false_iff_ne]; omega
      simp [this]
  · have : (List.range n)[i]? = none := List.getElem?_eq_none (by simp; omega)
    rw [this]
    by_cases hq : k = i
    · rw [if_pos hq, if_neg (by omega)]; rfl
    · rw [if_neg hq]; rfl
theorem open_l3 (L S : Int) (St : List Int) (E0 : List Ed) (Ac : List Int) (a b : Int) (c : List Int) (d : List Ed) (e : List Int) (g : List (List Ed)) {n : Nat} : ∀ (suf pre : List Ed), (pre ++ suf).length < 1000000 → EdIn n (pre ++ suf) →
    nondet_open.l3 (pre ++ suf) ((pre ++ suf).length : Nat) (pre.length : Nat) a b L S St E0 Ac c d e g (gr n pre) = some (L, (S, (St, (E0, (Ac, (gr n (pre ++ suf), ()))))))
  | [], pre, h, hE => by rw [nondet_open.l3_eq, ifB_not _ _ (lt_end pre), List.append_nil]
  | x :: suf, pre, h, hE => by
    have hl : pre.length < 1000000 := by simp only [List.length_append] at h; omega
    have hx := hE x (by simp)
    have hfl : (pre.filter fun y => y.1 == x.1).length ≤ pre.length := List.length_filter_le _ _
    rw [nondet_open.l3_eq, ifB_of _ _ (lt_at pre x suf), ixAt_at, bindD_some, gr_ix hx.1]
    simp only [bindD_some]
    rw [grow_one _ (by omega), bindD_some, ifB_of _ _ (by simp), w_pre pre x (by omega), app_at pre x suf]
    have := gr_snoc (E := pre) hx.1
    rw [show (x.1, (x.2.1, x.2.2)) = x from rfl, this]
    exact open_l3 L S St E0 Ac a b c d e g suf (pre ++ [x]) (by rw [← app_at]; exact h) (by rw [← app_at]; exact hE)
theorem mkLen_ok {n : Nat} (h : n ≤ 4294967296) : mkLen (n : Int) (n : Int) = some n := by
  unfold mkLen mostLen; rw [if_pos ⟨by omega, by omega, by omega⟩, Int.toNat_natCast]
theorem gr_nil (n : Nat) : List.replicate n ([] : List Ed) = gr n [] := by
  unfold gr
  refine List.ext_getElem? fun i => ?_
  rw [List.getElem?_replicate, List.getElem?_map]
  by_cases hi : i < n
  · rw [if_pos hi, List.getElem?_range hi]; rfl
  · rw [if_neg hi, List.getElem?_eq_none (by simp; omega)]; rfl
theorem open_f {L : Int} {n : Nat} {St : List Int} {E : List Ed} {Ac : List Int} (hn : n ≤ 400) (hl : E.length < 1000000) (hE : EdIn n E) :
    nondet_open.f L (n : Int) St E Ac = some (L, ((n : Int), (St, (E, (Ac, (gr n E, ())))))) := by
  rw [nondet_open.f_eq, mkLen_ok (by omega), bindD_some, gr_nil]
  exact open_l3 L n St E Ac 0 0 [] [] [] [] E [] hl hE
end Go.Proofs.C07
