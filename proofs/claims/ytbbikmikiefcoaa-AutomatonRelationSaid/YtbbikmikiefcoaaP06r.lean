/- Relation: the law. -/
import Derived.Test.YtbbikmikiefcoaaP06n
import Derived.Test.YtbbikmikiefcoaaMachine4
set_option linter.unusedVariables false
set_option linter.unusedSimpArgs false
namespace Go.Proofs.C06
open Go Go.Proofs.R
set_option linter.unusedVariables false
set_option linter.unusedSimpArgs false
set_option linter.unusedSectionVars false
set_option maxRecDepth 100000

theorem less_tot {p q : Pr} (h1 : less p q = false) (h2 : less q p = false) : p = q := by
  have g1 : ¬ _ := fun h => by rw [(less_iff p q).2 h] at h1; cases h1
  have g2 : ¬ _ := fun h => by rw [(less_iff q p).2 h] at h2; cases h2
  obtain ⟨a1, a2⟩ := p
  obtain ⟨b1, b2⟩ := q
  simp only at g1 g2
  have : a1 = b1 ∧ a2 = b2 := by omega
  simp [this]
/-- a list in order of what has a property -/
structure SrtP (r : List Pr) (G : Pr → Prop) : Prop where
  asc : r.Pairwise fun p q => less p q = true
  mem : ∀ x, x ∈ r ↔ G x
theorem SrtP.nodup {r : List Pr} {G : Pr → Prop} (h : SrtP r G) : r.Nodup := h.asc.imp fun hab e => by rw [e, less_irr] at hab; cases hab
theorem asc_back {r : List Pr} (h : r.Pairwise fun p q => less p q = true) : r.Pairwise fun p q => less q p = false := h.imp fun {a b} hab => by
  cases hba : less b a with
  | false => rfl
  | true => have := less_trans hab hba; rw [less_irr] at this; cases this
theorem sort_pairs {l r : List Pr} (h : SrtP r (· ∈ l)) (hl : l.Nodup) :
    sortB false (fun t257 t258 => bindD (automaton_order.f t257.1 t257.2 t258.1 t258.2) fun t259 => some t259.1) l = some r :=
  sortB_total (cf := ordV) (lt := less) (fun x _ y _ => by rw [order_f]; rfl) ord_lt less_irr (fun _ _ _ => less_trans) (fun _ _ => less_tot) ((List.perm_ext_iff_of_nodup h.nodup hl).2 h.mem) (asc_back h.asc)

/-! the program's list -/
def some2 (p : Pr) : Bool := !((p.1 == (-1 : Int)) && (p.2 == (-1 : Int)))
theorem rel_l9 : ∀ (suf pre : List Vis) (out : List Pr), (pre ++ suf).length < 1000000 → out.length ≤ pre.length →
    automaton_Relation.l9 ((pre ++ suf).length : Nat) (pre.length : Nat) out (pre ++ suf) =
      bindD (sortB false (fun t257 t258 => bindD (automaton_order.f t257.1 t257.2 t258.1 t258.2) fun t259 => some t259.1) (out ++ (keysL suf).filter some2)) fun t260 => some (t260, ((0 : Int), ()))
  | [], pre, out, h, ho => by
    have hl : pre.length < 1000000 := by simpa using h
    rw [automaton_Relation.l9_eq, ifB_not _ _ (lt_end pre), grow_ok (by omega), bindD_some]; simp [keysL]
  | v :: suf, pre, out, h, ho => by
    have hl : pre.length < 1000000 := by simp only [List.length_append] at h; omega
    have hix : ixAt (pre ++ v :: suf) ((pre.length : Nat) : Int) = some v := by rw [ixAt_nat, List.getElem?_append_right (Nat.le_refl _)]; simp
    rw [automaton_Relation.l9_eq, ifB_of _ _ (lt_at pre v suf), hix, bindD_some, bindD_some]
    have hk : keysL (v :: suf) = v.1 :: keysL suf := rfl
    cases hs : some2 v.1 with
    | true =>
      have ih := rel_l9 suf (pre ++ [v]) (out ++ [v.1]) (by rw [← app_at]; exact h) (by simp; omega)
      rw [ifB_of _ _ (show (!((v.1.1 == (-1 : Int)) && (v.1.2 == (-1 : Int)))) = true from hs), grow_ok (by simp; omega), bindD_some, w_at (x := v) (s := suf) (by omega), app_at pre v suf]
      refine Eq.trans ih ?_
      rw [hk, List.filter_cons_of_pos (by rw [hs]), List.append_assoc]; rfl
    | false =>
      have ih := rel_l9 suf (pre ++ [v]) out (by rw [← app_at]; exact h) (by simp; omega)
      rw [ifB_not _ _ (show (!((v.1.1 == (-1 : Int)) && (v.1.2 == (-1 : Int)))) = false from hs), w_at (x := v) (s := suf) (by omega), app_at pre v suf]
      refine Eq.trans ih ?_
      rw [hk, List.filter_cons_of_neg (by rw [hs]; simp)]

/-! the reference's list -/
theorem sub_pre (A B : List Pr) : subL (A ++ B) 0 ((A.length : Nat) : Int) = some A := by
  unfold subL
  rw [if_pos ⟨by omega, by omega, by simp; omega⟩, Int.toNat_natCast, List.take_left']
  · rfl
  · rfl
theorem sub_suf (A B : List Pr) : subL (A ++ B) ((A.length : Nat) : Int) (((A ++ B).length : Nat) : Int) = some B := by
  unfold subL
  rw [if_pos ⟨by omega, by simp; omega, by omega⟩, Int.toNat_natCast, Int.toNat_natCast, List.take_length, List.drop_left']
  rfl
theorem view_pre (A B : List Pr) : viewL (A ++ B) 0 ((A.length : Nat) : Int) = A := by
  have := sub_pre A B
  unfold subL at this
  split at this
  · exact Option.some.inj this
  · cases this
theorem view_suf (A B : List Pr) : viewL (A ++ B) ((A.length : Nat) : Int) (((A ++ B).length : Nat) : Int) = B := by
  have := sub_suf A B
  unfold subL at this
  split at this
  · exact Option.some.inj this
  · cases this

section
variable {L Sa Sb : Int} {Na Nb : LLI} {Aa Ab : LB}
theorem rins (l : List Vis) (i : Int) (x : Pr) : ∀ (R B : List Pr), (R.reverse ++ B).length < 1000000 → (∀ b ∈ B, less x b = true) → x ∉ R →
    ∃ A B', R.reverse ++ B = A ++ B' ∧ (∀ b ∈ B', less x b = true) ∧ (A = [] ∨ ∃ A' y, A = A' ++ [y] ∧ less y x = true) ∧
      ancepsref06_Relation.l14 i (R.reverse.length : Nat) L Sa Na Aa L Sb Nb Ab l (R.reverse ++ B) x.1 x.2 = ancepsref06_Relation.l7 (IntKind.i64.wrap (i + 1)) L Sa Na Aa L Sb Nb Ab l (A ++ x :: B')
  | [], B, h, hB, hx' => by
    refine ⟨[], B, rfl, hB, .inl rfl, ?_⟩
    have e1 := sub_pre [] B
    have e2 := sub_suf [] B
    have e3 := view_pre [] B
    have e4 := view_suf [] B
    simp only [List.reverse_nil, List.nil_append, List.length_nil] at h e1 e2 e3 e4 ⊢
    rw [ancepsref06_Relation.l14_eq, ifB_not _ _ (by rfl), e1, bindD_some, e2, bindD_some, e3, e4, grow_ok (by simp; omega), bindD_some, grow_ok (by simp; omega), bindD_some]
    rfl
  | y :: R, B, h, hB, hx' => by
    have hxy : x ≠ y := fun e => hx' (by rw [e]; exact List.mem_cons_self)
    have hl : ((y :: R).reverse.length : Nat) = R.reverse.length + 1 := by simp
    have hlt : R.reverse.length < 1000000 := by simp only [List.length_append, List.length_cons, List.length_reverse] at h ⊢; omega
    have e1 : (y :: R).reverse ++ B = R.reverse ++ y :: B := by simp
    have hw : IntKind.i64.wrap ((((y :: R).reverse.length : Nat) : Int) - 1) = ((R.reverse.length : Nat) : Int) := by
      rw [hl, show (((R.reverse.length + 1 : Nat) : Int) - 1) = ((R.reverse.length : Nat) : Int) by omega]; exact w64_nat (by omega)
    have hy : ixAt ((y :: R).reverse ++ B) ((R.reverse.length : Nat) : Int) = some y := by rw [e1, ixAt_nat, List.getElem?_append_right (Nat.le_refl _)]; simp
    rw [ancepsref06_Relation.l14_eq, ifB_of _ _ (decide_eq_true (by rw [hl]; omega)), hw, hy, bindD_some, bindD_some, rless_f x y, bindD_some]
    cases hlx : less x y with
    | true =>
      obtain ⟨A, B', h1, h2, h3, h4⟩ := rins l i x R (y :: B) (by rw [← e1]; exact h) (fun b hb => by
        rcases List.mem_cons.1 hb with rfl | hb
        · exact hlx
        · exact hB b hb) (fun hm => hx' (List.mem_cons_of_mem _ hm))
      refine ⟨A, B', by rw [e1]; exact h1, h2, h3, ?_⟩
      rw [ifB_true, e1]; exact h4
    | false =>
      have hyx : less y x = true := by
        cases h3 : less y x with
        | true => rfl
        | false => exact (hxy (less_tot hlx h3)).elim
      refine ⟨(y :: R).reverse, B, rfl, hB, .inr ⟨R.reverse, y, by simp, hyx⟩, ?_⟩
      have e3 := sub_pre (y :: R).reverse B
      have e4 := sub_suf (y :: R).reverse B
      have e5 := view_pre (y :: R).reverse B
      have e6 := view_suf (y :: R).reverse B
      have hA : (y :: R).reverse.length + B.length ≤ 1000000 := by simp only [List.length_append] at h; omega
      generalize (y :: R).reverse = A at *
      rw [ifB_false, e3, bindD_some, e4, bindD_some, e5, e6, grow_ok (by simp; omega), bindD_some, grow_ok (by simp; omega), bindD_some]
      rfl
theorem SrtP.ins {A B : List Pr} {x : Pr} {G : Pr → Prop} (hs : SrtP (A ++ B) G) (hB : ∀ b ∈ B, less x b = true) (hA : A = [] ∨ ∃ A' y, A = A' ++ [y] ∧ less y x = true) : SrtP (A ++ x :: B) (fun z => G z ∨ z = x) := by
  have ha := hs.asc
  rw [List.pairwise_append] at ha
  obtain ⟨h1, h2, h3⟩ := ha
  have hAx : ∀ a ∈ A, less a x = true := by
    intro a haA
    rcases hA with rfl | ⟨A', y, rfl, hy⟩
    · cases haA
    · rw [List.pairwise_append] at h1
      rcases List.mem_append.1 haA with h4 | h4
      · exact less_trans (h1.2.2 a h4 y (by simp)) hy
      · rw [List.mem_singleton] at h4; subst h4; exact hy
  refine ⟨?_, fun z => ?_⟩
  · rw [List.pairwise_append, List.pairwise_cons]
    refine ⟨h1, ⟨hB, h2⟩, ?_⟩
    intro a haA b hb
    rcases List.mem_cons.1 hb with rfl | hb
    · exact hAx a haA
    · exact h3 a haA b hb
  · have hm := hs.mem z
    rw [List.mem_append] at hm
    simp only [List.mem_append, List.mem_cons]
    rw [← hm]
    constructor
    · rintro (h | rfl | h)
      · exact .inl (.inl h)
      · exact .inr rfl
      · exact .inl (.inr h)
    · rintro ((h | h) | rfl)
      · exact .inl h
      · exact .inr (.inr h)
      · exact .inr (.inl rfl)
theorem SrtP.of {r : List Pr} {G H : Pr → Prop} (h : SrtP r G) (hm : ∀ x, G x ↔ H x) : SrtP r H := ⟨h.asc, fun x => (h.mem x).trans (hm x)⟩

theorem rrel_l7 (ha : V L Sa Na Aa) (hb : V L Sb Nb Ab) : ∀ (suf pre : List Vis) (out : List Pr), (pre ++ suf).length < 1000000 → (keysL (pre ++ suf)).Nodup → (∀ v ∈ suf, inU Na Nb v.1) → out.length ≤ pre.length →
    SrtP out (fun p => p ∈ keysL pre ∧ none2 p = false) →
    ((∃ v ∈ suf, dif Aa Ab v.1 = true) → ancepsref06_Relation.l7 (pre.length : Nat) L Sa Na Aa L Sb Nb Ab (pre ++ suf) out = some ([], ((12 : Int), ()))) ∧
    ((∀ v ∈ suf, dif Aa Ab v.1 = false) → ∃ r, ancepsref06_Relation.l7 (pre.length : Nat) L Sa Na Aa L Sb Nb Ab (pre ++ suf) out = some (r, ((0 : Int), ())) ∧ SrtP r (fun p => p ∈ keysL (pre ++ suf) ∧ none2 p = false))
  | [], pre, out, h, hn, hU, ho, hs => by
    refine ⟨fun hh => (by obtain ⟨v, hv, _⟩ := hh; cases hv), fun _ => ⟨out, by rw [ancepsref06_Relation.l7_eq, ifB_not _ _ (lt_end pre)], by rw [List.append_nil]; exact hs⟩⟩
  | v :: suf, pre, out, h, hn, hU, ho, hs => by
    have hl : pre.length < 1000000 := by simp only [List.length_append] at h; omega
    have hix : ixAt (pre ++ v :: suf) ((pre.length : Nat) : Int) = some v := by rw [ixAt_nat, List.getElem?_append_right (Nat.le_refl _)]; simp
    have hv := hU v List.mem_cons_self
    have hx : v.1 ∉ keysL pre := by
      intro hm
      rw [show keysL (pre ++ v :: suf) = keysL pre ++ v.1 :: keysL suf by simp [keysL], List.nodup_append] at hn
      exact hn.2.2 v.1 hm v.1 (by simp) rfl
    have hkp : ∀ z, z ∈ keysL (pre ++ [v]) ↔ z ∈ keysL pre ∨ z = v.1 := fun z => by simp [keysL]
    have hU' : ∀ w ∈ suf, inU Na Nb w.1 := fun w hw => hU w (List.mem_cons_of_mem _ hw)
    rw [ancepsref06_Relation.l7_eq, ifB_of _ _ (lt_at pre v suf), hix, bindD_some, bindD_some, accepting_f (by rw [ha.a]; exact hv.1.2), bindD_some, accepting_f (by rw [hb.a]; exact hv.2.2), bindD_some]
    cases hd : dif Aa Ab v.1 with
    | true =>
      rw [ifB_of _ _ (show (!(acc Aa v.1.1 == acc Ab v.1.2)) = true from hd)]
      exact ⟨fun _ => rfl, fun hh => by have := hh v List.mem_cons_self; rw [hd] at this; cases this⟩
    | false =>
      rw [ifB_not _ _ (show (!(acc Aa v.1.1 == acc Ab v.1.2)) = false from hd)]
      have key : ∀ out', out'.length ≤ pre.length + 1 → SrtP out' (fun p => p ∈ keysL (pre ++ [v]) ∧ none2 p = false) →
          ((∃ w ∈ v :: suf, dif Aa Ab w.1 = true) → ancepsref06_Relation.l7 (IntKind.i64.wrap (((pre.length : Nat) : Int) + 1)) L Sa Na Aa L Sb Nb Ab (pre ++ v :: suf) out' = some ([], ((12 : Int), ()))) ∧
          ((∀ w ∈ v :: suf, dif Aa Ab w.1 = false) → ∃ r, ancepsref06_Relation.l7 (IntKind.i64.wrap (((pre.length : Nat) : Int) + 1)) L Sa Na Aa L Sb Nb Ab (pre ++ v :: suf) out' = some (r, ((0 : Int), ())) ∧ SrtP r (fun p => p ∈ keysL (pre ++ v :: suf) ∧ none2 p = false)) := by
        intro out' ho' hs'
        have ih := rrel_l7 ha hb suf (pre ++ [v]) out' (by rw [← app_at]; exact h) (by rw [← app_at]; exact hn) hU' (by simpa using ho') hs'
        rw [← app_at] at ih
        rw [w_at (x := v) (s := suf) (by omega)]
        refine ⟨fun ⟨w, hw, hdw⟩ => ih.1 ?_, fun hh => ih.2 fun w hw => hh w (List.mem_cons_of_mem _ hw)⟩
        rcases List.mem_cons.1 hw with rfl | hw
        · rw [hd] at hdw; cases hdw
        · exact ⟨w, hw, hdw⟩
      have hins : none2 v.1 = false → ∃ out', out'.length ≤ pre.length + 1 ∧ SrtP out' (fun p => p ∈ keysL (pre ++ [v]) ∧ none2 p = false) ∧
          ancepsref06_Relation.l14 (pre.length : Nat) ((out.length : Nat) : Int) L Sa Na Aa L Sb Nb Ab (pre ++ v :: suf) out v.1.1 v.1.2 = ancepsref06_Relation.l7 (IntKind.i64.wrap (((pre.length : Nat) : Int) + 1)) L Sa Na Aa L Sb Nb Ab (pre ++ v :: suf) out' := by
        intro hn2
        obtain ⟨A, B, g1, g2, g3, g4⟩ := rins (L := L) (Sa := Sa) (Sb := Sb) (Na := Na) (Nb := Nb) (Aa := Aa) (Ab := Ab) (pre ++ v :: suf) ((pre.length : Nat) : Int) v.1 out.reverse [] (by simp; omega) (fun _ h => by cases h) (fun hm => hx ((hs.mem v.1).1 (by simpa using hm)).1)
        simp only [List.reverse_reverse, List.append_nil] at g1 g4
        have hlen : out.length = A.length + B.length := by rw [g1, List.length_append]
        refine ⟨A ++ v.1 :: B, by simp; omega, ((g1 ▸ hs : SrtP (A ++ B) _).ins g2 g3).of fun z => ?_, g4⟩
        rw [hkp]
        constructor
        · rintro (⟨h1, h2⟩ | rfl)
          · exact ⟨.inl h1, h2⟩
          · exact ⟨.inr rfl, hn2⟩
        · rintro ⟨h1 | rfl, h2⟩
          · exact .inl ⟨h1, h2⟩
          · exact .inr rfl
      by_cases h1 : v.1.1 < 0
      · rw [ifB_of _ _ (decide_eq_true h1)]
        by_cases h2 : v.1.2 < 0
        · rw [ifB_of _ _ (decide_eq_true h2)]
          refine key out (by omega) (hs.of fun z => ?_)
          rw [hkp]
          constructor
          · rintro ⟨h3, h4⟩; exact ⟨.inl h3, h4⟩
          · rintro ⟨h3 | rfl, h4⟩
            · exact ⟨h3, h4⟩
            · unfold none2 at h4; rw [decide_eq_true h1, decide_eq_true h2] at h4; cases h4
        · rw [ifB_not _ _ (decide_eq_false h2)]
          obtain ⟨out', k1, k2, k3⟩ := hins (by unfold none2; rw [decide_eq_false h2]; simp)
          rw [k3]; exact key out' k1 k2
      · rw [ifB_not _ _ (decide_eq_false h1)]
        obtain ⟨out', k1, k2, k3⟩ := hins (by unfold none2; rw [decide_eq_false h1]; simp)
        rw [k3]; exact key out' k1 k2

/-! equal lists -/
theorem eq_pairs : ∀ (suf pre : List Pr), (pre ++ suf).length < 1000000 → api_Pair_41.l4 (pre ++ suf) (pre ++ suf) ((pre ++ suf).length : Nat) (pre.length : Nat) = some (true, ())
  | [], pre, h => by rw [api_Pair_41.l4_eq, ifB_not _ _ (lt_end pre)]
  | x :: suf, pre, h => by
    have hl : pre.length < 1000000 := by simp only [List.length_append] at h; omega
    have hix : ixAt (pre ++ x :: suf) ((pre.length : Nat) : Int) = some x := by rw [ixAt_nat, List.getElem?_append_right (Nat.le_refl _)]; simp
    have ih := eq_pairs suf (pre ++ [x]) (by rw [← app_at]; exact h)
    rw [api_Pair_41.l4_eq, ifB_of _ _ (lt_at pre x suf), hix, bindD_some, bindD_some, ifB_not _ _ (by simp), w_at (x := x) (s := suf) (by omega), app_at pre x suf]
    exact ih
theorem eqp_f {l : List Pr} (h : l.length < 1000000) : api_Pair_41.f l l = some (true, ()) := by
  rw [api_Pair_41.f_eq, ifB_not _ _ (by simp)]
  exact eq_pairs l [] h

/-! what is returned is a relation -/
theorem chkA_of : ∀ (l : List Pr) (o : Option Pr), l.Pairwise (fun p q => less p q = true) → (∀ p ∈ l, befo o p = true) → (∀ p ∈ l, rng Na Nb p = true) → chkA Na Nb o l = true
  | [], _, _, _, _ => rfl
  | p :: l, o, h, hb, hr => by
    rw [List.pairwise_cons] at h
    simp only [chkA, Bool.and_eq_true]
    exact ⟨⟨hb p List.mem_cons_self, hr p List.mem_cons_self⟩, chkA_of l (some p) h.2 h.1 fun q hq => hr q (List.mem_cons_of_mem _ hq)⟩
theorem clos_of {l : List Pr} {p : Pr} : ∀ (f c : Nat), (∀ c', c ≤ c' → c' < c + f → inR l (nx Na Nb p c') = true) → clos Na Nb l p f c = true
  | 0, _, _ => rfl
  | f + 1, c, h => by
    simp only [clos, Bool.and_eq_true]
    exact ⟨h c (Nat.le_refl _) (by omega), clos_of f (c + 1) fun c' h1 h2 => h c' (by omega) (by omega)⟩
theorem rel_check (ha : V L Sa Na Aa) (hb : V L Sb Nb Ab) (hd : ∀ v ∈ walkL L Sa Na Sb Nb, dif Aa Ab v.1 = false) {r : List Pr} (hr : SrtP r (fun p => p ∈ keysL (walkL L Sa Na Sb Nb) ∧ none2 p = false)) :
    relB L Sa Sb Na Nb Aa Ab r = true := by
  obtain ⟨hI, hD⟩ := walkL_facts ha hb
  have hL1 := ha.l1
  have hin : ∀ p, p ∈ keysL (walkL L Sa Na Sb Nb) → inR r p = true := by
    intro p hp
    unfold inR
    cases hn : none2 p with
    | true => simp
    | false => rw [decide_eq_true ((hr.mem p).2 ⟨hp, hn⟩)]; rfl
  unfold relB
  rw [Bool.and_eq_true, Bool.and_eq_true, List.all_eq_true]
  refine ⟨hin _ ?_, chkA_of r none hr.asc (fun _ _ => rfl) fun p hp => ?_, fun p hp => ?_⟩
  · exact List.mem_map.2 ⟨_, List.mem_of_getElem? hI.h0, rfl⟩
  · obtain ⟨h1, h2⟩ := (hr.mem p).1 hp
    obtain ⟨v, hv, rfl⟩ := List.mem_map.1 h1
    have hu := hI.u v hv
    unfold inU at hu
    unfold rng
    rw [h2]
    simp only [Bool.and_eq_true, Bool.not_eq_true', decide_eq_false_iff_not, Bool.not_false, and_true]
    omega
  · obtain ⟨h1, h2⟩ := (hr.mem p).1 hp
    obtain ⟨v, hv, rfl⟩ := List.mem_map.1 h1
    unfold simu
    rw [Bool.and_eq_true]
    constructor
    · have := hd v hv
      unfold dif at this
      simpa using this
    · refine clos_of _ _ fun c' _ hc => hin _ ?_
      obtain ⟨j, hj⟩ := List.mem_iff_getElem?.1 hv
      exact has_iff.1 (hD j v (List.getElem?_eq_some_iff.1 hj).1 hj c' (by omega) rfl)

theorem relation_f (ha : V L Sa Na Aa) (hb : V L Sb Nb Ab) (hok : errP L Sa Na Aa L Sb Nb Ab = true) :
    (automaton_Relation.f L Sa Na Aa L Sb Nb Ab = some ([], ((12 : Int), ())) ∧ ancepsref06_Relation.f L Sa Na Aa L Sb Nb Ab = some ([], ((12 : Int), ()))) ∨
    (∃ r, r.length ≤ 160801 ∧ lang L Na Aa Sa = lang L Nb Ab Sb ∧ relB L Sa Sb Na Nb Aa Ab r = true ∧ automaton_Relation.f L Sa Na Aa L Sb Nb Ab = some (r, ((0 : Int), ())) ∧ ancepsref06_Relation.f L Sa Na Aa L Sb Nb Ab = some (r, ((0 : Int), ()))) := by
  obtain ⟨hI, hD⟩ := walkL_facts ha hb
  have hlen := inv_len ha hb hI
  have hiff := diff_none_iff ha hb
  unfold diffW at hiff
  have h7 := rrel_l7 ha hb (walkL L Sa Na Sb Nb) [] [] (by simp; omega) (by simpa [keysL] using hI.nd) hI.u (by simp) ⟨.nil, by simp [keysL]⟩
  simp only [List.nil_append, List.length_nil] at h7
  rw [automaton_Relation.f_eq, ancepsref06_Relation.f_eq, both_f, rboth_f, hok, bindD_some, bindD_some, ifB_not _ _ (by rfl), ifB_not _ _ (by rfl), visits_f ha hb, walk_f ha hb, bindD_some, bindD_some, differ_f ha hb _ hlen hI.u, bindD_some]
  cases hf : firstD Aa Ab (walkL L Sa Na Sb Nb) 0 with
  | some i =>
    left
    obtain ⟨j, v, _, hj, hdv, _⟩ := firstD_some hf
    exact ⟨by unfold numD; rw [ifB_of _ _ (decide_eq_true (by simp only; omega))], h7.1 ⟨v, List.mem_of_getElem? hj, hdv⟩⟩
  | none =>
    right
    rw [hf] at hiff
    have hd := firstD_none hf
    obtain ⟨r, h1, h2⟩ := h7.2 hd
    have hnd : ((keysL (walkL L Sa Na Sb Nb)).filter some2).Nodup := List.Pairwise.filter _ hI.nd
    have h4 : SrtP r (· ∈ (keysL (walkL L Sa Na Sb Nb)).filter some2) := h2.of fun p => by
      rw [List.mem_filter]
      refine and_congr_right fun hp => ?_
      obtain ⟨v, hv, rfl⟩ := List.mem_map.1 hp
      have hu := hI.u v hv
      unfold inU at hu
      unfold some2
      rw [none2_eq ⟨hu.1.1, hu.2.1⟩]; simp
    have hle : r.length ≤ 160801 := by
      have e1 : r.length = ((keysL (walkL L Sa Na Sb Nb)).filter some2).length := ((List.perm_ext_iff_of_nodup h4.nodup hnd).2 h4.mem).length_eq
      have e2 := List.length_filter_le some2 (keysL (walkL L Sa Na Sb Nb))
      have e3 : (keysL (walkL L Sa Na Sb Nb)).length = (walkL L Sa Na Sb Nb).length := by simp [keysL]
      omega
    refine ⟨r, hle, hiff.1 rfl, rel_check ha hb hd h2, ?_, h1⟩
    have h5 := rel_l9 (walkL L Sa Na Sb Nb) [] [] (by simp; omega) (by simp)
    simp only [List.nil_append, List.length_nil] at h5
    rw [sort_pairs h4 hnd, bindD_some] at h5
    rw [ifB_not _ _ (by rfl)]; exact h5

open Classical in
theorem relation_law (L S : Int) (N : LLI) (A : LB) (L' S' : Int) (N' : LLI) (A' : LB) (hN : ∀ r ∈ N, r.length ≤ 140737488351232) (hN' : ∀ r ∈ N', r.length ≤ 140737488351232) : ancepslaw06_AutomatonRelation.f L S N A L' S' N' A' = some (true, ()) := by
  obtain ⟨b, hb, hs⟩ := small_f L S N A L' S' N' A' hN hN'
  rw [ancepslaw06_AutomatonRelation.f_eq, awake_f, bindD_some, ifB_not _ _ (by rfl), hb, bindD_some]
  cases b with
  | false => rfl
  | true =>
    obtain ⟨h1, h2⟩ := hs rfl
    rw [ifB_not _ _ (by rfl), copied_f L S h1]
    simp only [bindD_some]
    rw [copied_f L' S' h2]
    simp only [bindD_some]
    cases hok : errP L S N A L' S' N' A' with
    | false =>
      have e1 : automaton_Relation.f L S N A L' S' N' A' = some ([], (1, ())) := by rw [automaton_Relation.f_eq, both_f, hok]; rfl
      have e2 : ancepsref06_Relation.f L S N A L' S' N' A' = some ([], (1, ())) := by rw [ancepsref06_Relation.f_eq, rboth_f, hok]; rfl
      rw [e1, e2]
      simp only [bindD_some]
      rw [ifB_not _ _ (by rfl), eqp_f (by simp)]
      rfl
    | true =>
      obtain ⟨o1, o2, ha, hb, hLL⟩ := errP_V hok
      subst hLL
      rcases relation_f ha hb hok with ⟨h3, h4⟩ | ⟨r, hr, hlang, hrel, h3, h4⟩
      · rw [h3, h4]
        simp only [bindD_some]
        rw [ifB_not _ _ (by rfl), eqp_f (by simp)]
        rfl
      · rw [h3, h4]
        simp only [bindD_some]
        rw [ifB_not _ _ (by rfl), eqp_f (by omega)]
        simp only [bindD_some]
        rw [ifB_not _ _ (by rfl), ifB_not _ _ (by rfl), sameF ha hb hok, decide_eq_true hlang]
        simp only [bindD_some]
        rw [ifB_of _ _ (by rfl), ifB_true, check_f ha hb hok hr, hrel]
        rfl
end
end Go.Proofs.C06
