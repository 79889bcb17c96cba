/- Simulations: the law. -/
import Derived.Test.YtpminieacndmhaaP28j
import Derived.Test.YtpminieacndmhaaMachine4
set_option linter.unusedVariables false
set_option linter.unusedSimpArgs false
namespace Go.Proofs.C28
open Go Go.Proofs.R
set_option linter.unusedVariables false
set_option linter.unusedSimpArgs false
set_option linter.unusedSectionVars false
set_option maxRecDepth 100000

theorem less_tot {p q : Pr} (h1 : less p q = false) (h2 : less q p = false) : p = q := by
  have g1 : ¬ _ := fun h => by rw [(less_iff p q).2 h] at h1; cases h1
  have g2 : ¬ _ := fun h => by rw [(less_iff q p).2 h] at h2; cases h2
  obtain ⟨a1, a2⟩ := p
  obtain ⟨b1, b2⟩ := q
  simp only at g1 g2
  have : a1 = b1 ∧ a2 = b2 := by omega
  simp [this]
/-- a list in order of what has a property -/
structure SrtP (r : List Pr) (G : Pr → Prop) : Prop where
  asc : r.Pairwise fun p q => less p q = true
  mem : ∀ x, x ∈ r ↔ G x
theorem SrtP.nodup {r : List Pr} {G : Pr → Prop} (h : SrtP r G) : r.Nodup := h.asc.imp fun hab e => by rw [e, less_irr] at hab; cases hab
theorem asc_back {r : List Pr} (h : r.Pairwise fun p q => less p q = true) : r.Pairwise fun p q => less q p = false := h.imp fun {a b} hab => by
  cases hba : less b a with
  | false => rfl
  | true => have := less_trans hab hba; rw [less_irr] at this; cases this
theorem SrtP.uniq {r r' : List Pr} {G : Pr → Prop} (h : SrtP r G) (h' : SrtP r' G) : r = r' :=
  perm_eq (lt := less) (fun x y h1 h2 => less_tot h1 h2) ((List.perm_ext_iff_of_nodup h.nodup h'.nodup).2 fun x => (h.mem x).trans (h'.mem x).symm) (asc_back h.asc) (asc_back h'.asc)
theorem sort_pairs {l r : List Pr} (h : SrtP r (· ∈ l)) (hl : l.Nodup) :
    sortB false (fun t200 t201 => bindD (difference_order.f t200.1 t200.2 t201.1 t201.2) fun t202 => some t202.1) l = some r :=
  sortB_total (cf := ordV) (lt := less) (fun x _ y _ => by rw [order_f]; rfl) ord_lt less_irr (fun _ _ _ => less_trans) (fun _ _ => less_tot) ((List.perm_ext_iff_of_nodup h.nodup hl).2 h.mem) (asc_back h.asc)

/-! the program's list -/
theorem sim_l8 : ∀ (suf pre : List Vis), (pre ++ suf).length < 1000000 →
    difference_Simulation.l8 ((pre ++ suf).length : Nat) (pre.length : Nat) (pre.map (·.1)) (pre ++ suf) =
      bindD (sortB false (fun t200 t201 => bindD (difference_order.f t200.1 t200.2 t201.1 t201.2) fun t202 => some t202.1) ((pre ++ suf).map (·.1))) fun t203 => some (t203, ((0 : Int), ()))
  | [], pre, h => by
    rw [difference_Simulation.l8_eq, ifB_not _ _ (lt_end pre), grow_ok (by simp at h ⊢; omega), bindD_some]; simp
  | v :: suf, pre, h => by
    have ih := sim_l8 suf (pre ++ [v]) (by rw [← app_at]; exact h)
    have hl : pre.length < 1000000 := by simp only [List.length_append] at h; omega
    have hix : ixAt (pre ++ v :: suf) ((pre.length : Nat) : Int) = some v := by rw [ixAt_nat, List.getElem?_append_right (Nat.le_refl _)]; simp
    rw [difference_Simulation.l8_eq, ifB_of _ _ (lt_at pre v suf), hix, bindD_some, bindD_some, grow_ok (by simp; omega), bindD_some, w_at (x := v) (s := suf) (by omega), app_at pre v suf]
    rw [List.map_append] at ih
    exact ih

/-! the reference's list -/
theorem sub_pre (A B : List Pr) : subL (A ++ B) 0 ((A.length : Nat) : Int) = some A := by
  unfold subL
  rw [if_pos ⟨by omega, by omega, by simp; omega⟩, Int.toNat_natCast, List.take_left']
  · rfl
  · rfl
theorem sub_suf (A B : List Pr) : subL (A ++ B) ((A.length : Nat) : Int) (((A ++ B).length : Nat) : Int) = some B := by
  unfold subL
  rw [if_pos ⟨by omega, by simp; omega, by omega⟩, Int.toNat_natCast, Int.toNat_natCast, List.take_length, List.drop_left']
  rfl
theorem ins_l13 (ps : List Pr) (i : Int) {x : Pr} (hx : ixAt ps i = some x) : ∀ (R B : List Pr), (R.reverse ++ B).length < 1000000 → (∀ b ∈ B, less x b = true) → x ∉ R →
    ∃ A B', R.reverse ++ B = A ++ B' ∧ (∀ b ∈ B', less x b = true) ∧ (A = [] ∨ ∃ A' y, A = A' ++ [y] ∧ less y x = true) ∧
      ancepsref28_Simulation.l13 ps i (R.reverse.length : Nat) (R.reverse ++ B) = ancepsref28_Simulation.l9 ps (IntKind.i64.wrap (i + 1)) (A ++ x :: B')
  | [], B, h, hB, hx' => by
    refine ⟨[], B, rfl, hB, .inl rfl, ?_⟩
    have e1 := sub_pre [] B
    have e2 := sub_suf [] B
    simp only [List.reverse_nil, List.nil_append, List.length_nil] at h e1 e2 ⊢
    rw [ancepsref28_Simulation.l13_eq, ifB_not _ _ (by rfl), e1, bindD_some, grow_ok (by simp), bindD_some, hx, bindD_some, grow_ok (by simp), bindD_some, e2, bindD_some, grow_ok (by simp; omega), bindD_some]
    rfl
  | y :: R, B, h, hB, hx' => by
    have hxy : x ≠ y := fun e => hx' (by rw [e]; exact List.mem_cons_self)
    have hl : ((y :: R).reverse.length : Nat) = R.reverse.length + 1 := by simp
    have hlt : R.reverse.length < 1000000 := by simp only [List.length_append, List.length_cons, List.length_reverse] at h ⊢; omega
    have e1 : (y :: R).reverse ++ B = R.reverse ++ y :: B := by simp
    have hw : IntKind.i64.wrap ((((y :: R).reverse.length : Nat) : Int) - 1) = ((R.reverse.length : Nat) : Int) := by rw [hl, w64 (by omega)]; omega
    have hy : ixAt ((y :: R).reverse ++ B) ((R.reverse.length : Nat) : Int) = some y := by rw [e1, ixAt_nat, List.getElem?_append_right (Nat.le_refl _)]; simp
    rw [ancepsref28_Simulation.l13_eq, ifB_of _ _ (decide_eq_true (by rw [hl]; omega)), hx, bindD_some, hw, hy, bindD_some, bindD_some, rless_f, bindD_some]
    cases hlx : less x y with
    | true =>
      obtain ⟨A, B', h1, h2, h3, h4⟩ := ins_l13 ps i hx R (y :: B) (by rw [← e1]; exact h) (fun b hb => by
        rcases List.mem_cons.1 hb with rfl | hb
        · exact hlx
        · exact hB b hb) (fun hm => hx' (List.mem_cons_of_mem _ hm))
      refine ⟨A, B', by rw [e1]; exact h1, h2, h3, ?_⟩
      rw [ifB_true, e1]; exact h4
    | false =>
      have hyx : less y x = true := by
        cases h3 : less y x with
        | true => rfl
        | false => exact (hxy (less_tot hlx h3)).elim
      refine ⟨(y :: R).reverse, B, rfl, hB, .inr ⟨R.reverse, y, by simp, hyx⟩, ?_⟩
      have e3 := sub_pre (y :: R).reverse B
      have e4 := sub_suf (y :: R).reverse B
      have hA : (y :: R).reverse.length ≤ 1000000 := by simp only [List.length_append] at h; omega
      have hBl : B.length ≤ 1000000 := by simp only [List.length_append] at h; omega
      generalize (y :: R).reverse = A at *
      rw [ifB_false, e3, bindD_some, grow_ok (by simp; omega), bindD_some, bindD_some, grow_ok (by simp; omega), bindD_some, e4, bindD_some, grow_ok (by simp; omega), bindD_some]
      congr 1
      simp
theorem SrtP.ins {A B : List Pr} {x : Pr} {G : Pr → Prop} (hs : SrtP (A ++ B) G) (hB : ∀ b ∈ B, less x b = true) (hA : A = [] ∨ ∃ A' y, A = A' ++ [y] ∧ less y x = true) : SrtP (A ++ x :: B) (fun z => G z ∨ z = x) := by
  have ha := hs.asc
  rw [List.pairwise_append] at ha
  obtain ⟨h1, h2, h3⟩ := ha
  have hAx : ∀ a ∈ A, less a x = true := by
    intro a haA
    rcases hA with rfl | ⟨A', y, rfl, hy⟩
    · cases haA
    · rw [List.pairwise_append] at h1
      rcases List.mem_append.1 haA with h4 | h4
      · exact less_trans (h1.2.2 a h4 y (by simp)) hy
      · rw [List.mem_singleton] at h4; subst h4; exact hy
  refine ⟨?_, fun z => ?_⟩
  · rw [List.pairwise_append, List.pairwise_cons]
    refine ⟨h1, ⟨hB, h2⟩, ?_⟩
    intro a haA b hb
    rcases List.mem_cons.1 hb with rfl | hb
    · exact hAx a haA
    · exact h3 a haA b hb
  · have hm := hs.mem z
    rw [List.mem_append] at hm
    simp only [List.mem_append, List.mem_cons]
    rw [← hm]
    constructor
    · rintro (h | rfl | h)
      · exact .inl (.inl h)
      · exact .inr rfl
      · exact .inl (.inr h)
    · rintro ((h | h) | rfl)
      · exact .inl h
      · exact .inr (.inr h)
      · exact .inr (.inl rfl)
theorem SrtP.of {r : List Pr} {G H : Pr → Prop} (h : SrtP r G) (hm : ∀ x, G x ↔ H x) : SrtP r H := ⟨h.asc, fun x => (h.mem x).trans (hm x)⟩
theorem rsim_l9 : ∀ (suf pre out : List Pr), (pre ++ suf).length < 1000000 → (pre ++ suf).Nodup → out.length ≤ pre.length → SrtP out (fun p => p ∈ pre ∧ 0 ≤ p.1) →
    ∃ r, ancepsref28_Simulation.l9 (pre ++ suf) (pre.length : Nat) out = some (r, ((0 : Int), ())) ∧ SrtP r (fun p => p ∈ pre ++ suf ∧ 0 ≤ p.1)
  | [], pre, out, h, hn, ho, hs => ⟨out, by rw [ancepsref28_Simulation.l9_eq, ifB_not _ _ (lt_end pre)], by rw [List.append_nil]; exact hs⟩
  | x :: suf, pre, out, h, hn, ho, hs => by
    have hl : pre.length < 1000000 := by simp only [List.length_append] at h; omega
    have hix : ixAt (pre ++ x :: suf) ((pre.length : Nat) : Int) = some x := by rw [ixAt_nat, List.getElem?_append_right (Nat.le_refl _)]; simp
    have hx : x ∉ pre := by
      intro hm
      rw [List.nodup_append] at hn
      exact hn.2.2 x hm x (by simp) rfl
    by_cases h0 : x.1 < 0
    · obtain ⟨r, h4, h5⟩ := rsim_l9 suf (pre ++ [x]) out (by rw [← app_at]; exact h) (by rw [← app_at]; exact hn) (by simp; omega) (hs.of fun z => by
        rw [List.mem_append, List.mem_singleton]
        constructor
        · rintro ⟨h1, h2⟩; exact ⟨.inl h1, h2⟩
        · rintro ⟨h1 | rfl, h2⟩
          · exact ⟨h1, h2⟩
          · omega)
      refine ⟨r, ?_, by rw [app_at]; exact h5⟩
      rw [ancepsref28_Simulation.l9_eq, ifB_of _ _ (lt_at pre x suf), hix, bindD_some, ifB_of _ _ (decide_eq_true h0), w_at (x := x) (s := suf) (by omega), app_at pre x suf]
      exact h4
    · obtain ⟨A, B, g1, g2, g3, g4⟩ := ins_l13 (pre ++ x :: suf) ((pre.length : Nat) : Int) hix out.reverse [] (by simp; omega) (fun _ h => by cases h) (fun hm => hx ((hs.mem x).1 (by simpa using hm)).1)
      simp only [List.reverse_reverse, List.append_nil] at g1 g4
      have hlen : out.length = A.length + B.length := by rw [g1, List.length_append]
      have hs2 := (g1 ▸ hs : SrtP (A ++ B) _).ins g2 g3
      obtain ⟨r, h4, h5⟩ := rsim_l9 suf (pre ++ [x]) (A ++ x :: B) (by rw [← app_at]; exact h) (by rw [← app_at]; exact hn) (by simp; omega) (hs2.of fun z => by
        rw [List.mem_append, List.mem_singleton]
        constructor
        · rintro (⟨h1, h2⟩ | rfl)
          · exact ⟨.inl h1, h2⟩
          · exact ⟨.inr rfl, by omega⟩
        · rintro ⟨h1 | rfl, h2⟩
          · exact .inl ⟨h1, h2⟩
          · exact .inr rfl)
      refine ⟨r, ?_, by rw [app_at]; exact h5⟩
      rw [ancepsref28_Simulation.l9_eq, ifB_of _ _ (lt_at pre x suf), hix, bindD_some, ifB_not _ _ (decide_eq_false h0), g4, w_at (x := x) (s := suf) (by omega), app_at pre x suf]
      exact h4

/-! equal lists -/
theorem eq_pairs : ∀ (suf pre : List Pr), (pre ++ suf).length < 1000000 → api_Pair_36.l4 (pre ++ suf) (pre ++ suf) ((pre ++ suf).length : Nat) (pre.length : Nat) = some (true, ())
  | [], pre, h => by rw [api_Pair_36.l4_eq, ifB_not _ _ (lt_end pre)]
  | x :: suf, pre, h => by
    have hl : pre.length < 1000000 := by simp only [List.length_append] at h; omega
    have hix : ixAt (pre ++ x :: suf) ((pre.length : Nat) : Int) = some x := by rw [ixAt_nat, List.getElem?_append_right (Nat.le_refl _)]; simp
    have ih := eq_pairs suf (pre ++ [x]) (by rw [← app_at]; exact h)
    rw [api_Pair_36.l4_eq, ifB_of _ _ (lt_at pre x suf), hix, bindD_some, bindD_some, ifB_not _ _ (by simp), w_at (x := x) (s := suf) (by omega), app_at pre x suf]
    exact ih
theorem eqp_f {l : List Pr} (h : l.length < 1000000) : api_Pair_36.f l l = some (true, ()) := by
  rw [api_Pair_36.f_eq, ifB_not _ _ (by simp)]
  exact eq_pairs l [] h

section
variable {L Sa Sb : Int} {Na Nb : LLI} {Aa Ab : LB}
/-! what is returned is a simulation -/
theorem chkA_of : ∀ (l : List Pr) (o : Option Pr), l.Pairwise (fun p q => less p q = true) → (∀ p ∈ l, befo o p = true) → (∀ p ∈ l, rng Na Nb p = true) → chkA Na Nb o l = true
  | [], _, _, _, _ => rfl
  | p :: l, o, h, hb, hr => by
    rw [List.pairwise_cons] at h
    simp only [chkA, Bool.and_eq_true]
    exact ⟨⟨hb p List.mem_cons_self, hr p List.mem_cons_self⟩, chkA_of l (some p) h.2 h.1 fun q hq => hr q (List.mem_cons_of_mem _ hq)⟩
theorem clos_of {l : List Pr} {p : Pr} : ∀ (f c : Nat), (∀ c', c ≤ c' → c' < c + f → (nx Na Nb p c').1 ≥ 0 → nx Na Nb p c' ∈ l) → clos Na Nb l p f c = true
  | 0, _, _ => rfl
  | f + 1, c, h => by
    simp only [clos, Bool.and_eq_true]
    refine ⟨?_, clos_of f (c + 1) fun c' h1 h2 h3 => h c' (by omega) (by omega) h3⟩
    by_cases h0 : (nx Na Nb p c).1 ≥ 0
    · rw [decide_eq_true h0, cond_true]; exact decide_eq_true (h c (Nat.le_refl _) (by omega) h0)
    · rw [decide_eq_false h0]; rfl
theorem sim_check (ha : V L Sa Na Aa) (hb : V L Sb Nb Ab) (hw : withinB L Sa Na Aa Sb Nb Ab = true) {r : List Pr} (hr : SrtP r (fun p => has (sideL L Sa Na Sb Nb) p = true)) :
    (chkA Na Nb none r && (r.all (simu L Na Nb Aa Ab r) && start Sa Sb r)) = true := by
  have hL1 := ha.l1
  have hm : ∀ p, p ∈ r ↔ lft p = true ∧ ∃ w, Wd L w ∧ runP Na Nb (Sa, Sb) w = p := fun p => (hr.mem p).trans (sideL_iff ha hb p)
  have hU : ∀ p ∈ r, inU Na Nb p := fun p hp => by
    obtain ⟨v, hv, rfl⟩ := List.mem_map.1 (has_iff.1 ((hr.mem p).1 hp))
    exact (sideL_U ha hb).1 v hv
  rw [Bool.and_eq_true, Bool.and_eq_true, List.all_eq_true]
  refine ⟨chkA_of r none hr.asc (fun _ _ => rfl) fun p hp => ?_, fun p hp => ?_, ?_⟩
  · have h1 := hU p hp
    have h2 : 0 ≤ p.1 := by have := ((hm p).1 hp).1; unfold lft at this; simpa using this
    unfold rng
    unfold inU at h1
    simp only [Bool.and_eq_true, Bool.not_eq_true', decide_eq_false_iff_not]
    omega
  · obtain ⟨h1, w, h2, h3⟩ := (hm p).1 hp
    unfold simu
    rw [Bool.and_eq_true]
    constructor
    · have he : has (sideE L Sa Na Sb Nb) p = true := (sideE_iff ha hb p).2 ⟨by unfold lft at h1; unfold eith; rw [h1]; rfl, w, h2, h3⟩
      obtain ⟨v, hv, rfl⟩ := List.mem_map.1 (has_iff.1 he)
      unfold withinB at hw
      rw [Bool.not_eq_true', List.any_eq_false] at hw
      have := hw v hv
      rw [Bool.not_eq_true'] 
      simpa using this
    · refine clos_of _ _ fun c' _ hc h0 => (hm _).2 ⟨by unfold lft; exact decide_eq_true h0, w ++ [c'], h2.snoc (by omega), by rw [runP_snoc, h3]⟩
  · unfold start
    by_cases hS : Sa < 0
    · rw [decide_eq_true hS]; rfl
    · rw [decide_eq_false hS, cond_false]
      exact decide_eq_true ((hm _).2 ⟨by unfold lft; exact decide_eq_true (by show Sa ≥ 0; omega), [], (fun _ h => nomatch h), rfl⟩)
theorem sideL_nodup (ha : V L Sa Na Aa) (hb : V L Sb Nb Ab) : ((sideL L Sa Na Sb Nb).map (·.1)).Nodup := by
  cases hg : lft (Sa, Sb) with
  | true => exact (sideL_facts ha hb hg).1.nd
  | false => unfold sideL; rw [hg]; simp
theorem sideE_nodup (ha : V L Sa Na Aa) (hb : V L Sb Nb Ab) : ((sideE L Sa Na Sb Nb).map (·.1)).Nodup := by
  cases hg : eith (Sa, Sb) with
  | true => exact (sideE_facts ha hb hg).1.nd
  | false => unfold sideE; rw [hg]; simp
theorem sim_f (ha : V L Sa Na Aa) (hb : V L Sb Nb Ab) (hv : errP L Sa Na Aa L Sb Nb Ab = true) :
    (withinB L Sa Na Aa Sb Nb Ab = false ∧ difference_Simulation.f L Sa Na Aa L Sb Nb Ab = some ([], ((12 : Int), ())) ∧ ancepsref28_Simulation.f L Sa Na Aa L Sb Nb Ab = some ([], ((12 : Int), ()))) ∨
    (withinB L Sa Na Aa Sb Nb Ab = true ∧ ∃ r, r.length ≤ 160801 ∧ SrtP r (fun p => has (sideL L Sa Na Sb Nb) p = true) ∧ difference_Simulation.f L Sa Na Aa L Sb Nb Ab = some (r, ((0 : Int), ())) ∧ ancepsref28_Simulation.f L Sa Na Aa L Sb Nb Ab = some (r, ((0 : Int), ()))) := by
  obtain ⟨ws, _, hre⟩ := reach_f ha hb
  rw [difference_Simulation.f_eq, ancepsref28_Simulation.f_eq, dvalid_f, rvalid_f, hv, bindD_some, bindD_some, ifB_not _ _ (by rfl), ifB_not _ _ (by rfl), within_f ha hb, rwithin_f ha hb, bindD_some, bindD_some]
  cases hw : withinB L Sa Na Aa Sb Nb Ab with
  | false => exact .inl ⟨rfl, rfl, rfl⟩
  | true =>
    refine .inr ⟨rfl, ?_⟩
    have hE := (sideE_U ha hb).2
    have hLl := (sideL_U ha hb).2
    obtain ⟨r, h1, h2⟩ := rsim_l9 ((sideE L Sa Na Sb Nb).map (·.1)) [] [] (by simp; omega) (by simpa using sideE_nodup ha hb) (by simp) ⟨.nil, by simp⟩
    simp only [List.nil_append] at h1 h2
    have h3 : SrtP r (fun p => has (sideL L Sa Na Sb Nb) p = true) := h2.of fun p => by
      rw [← has_iff, sideE_iff ha hb, sideL_iff ha hb]
      constructor
      · rintro ⟨⟨_, hw⟩, h0⟩; exact ⟨by unfold lft; exact decide_eq_true h0, hw⟩
      · rintro ⟨h0, hw⟩
        have h0' : 0 ≤ p.1 := by unfold lft at h0; simpa using h0
        exact ⟨⟨by unfold eith; rw [decide_eq_true (show p.1 ≥ 0 from h0')]; rfl, hw⟩, h0'⟩
    have h4 : SrtP r (· ∈ (sideL L Sa Na Sb Nb).map (·.1)) := h3.of fun p => has_iff
    have h5 := sim_l8 (sideL L Sa Na Sb Nb) [] (by simpa using Nat.lt_of_le_of_lt hLl (by omega))
    simp only [List.nil_append, List.map_nil, List.length_nil] at h5
    have hlen : r.length = ((sideL L Sa Na Sb Nb).map (·.1)).length := ((List.perm_ext_iff_of_nodup h4.nodup (sideL_nodup ha hb)).2 h4.mem).length_eq
    rw [sort_pairs h4 (sideL_nodup ha hb), bindD_some] at h5
    refine ⟨r, by rw [hlen, List.length_map]; exact hLl, h3, ?_, ?_⟩
    · rw [ifB_not _ _ (by rfl), side_f ha hb, bindD_some]; exact h5
    · rw [ifB_not _ _ (by rfl), hre, bindD_some]; exact h1
theorem simulation_law (a b : Int) (Na : LLI) (Aa : LB) (c d : Int) (Nb : LLI) (Ab : LB) : ancepslaw28_DifferenceSimulation.f a b Na Aa c d Nb Ab = some (true, ()) := by
  obtain ⟨r, hr⟩ := few_f a b Na Aa c d Nb Ab
  rw [ancepslaw28_DifferenceSimulation.f_eq, awake_f, bindD_some, ifB_not _ _ (by rfl), hr, bindD_some]
  cases r with
  | false => rfl
  | true =>
    rw [ifB_not _ _ (by rfl)]
    cases hv : errP a b Na Aa c d Nb Ab with
    | false =>
      rw [difference_Simulation.f_eq, ancepsref28_Simulation.f_eq, dvalid_f, rvalid_f, hv]
      simp only [bindD_some]
      rw [ifB_of _ _ (by rfl), ifB_of _ _ (by rfl), bindD_some, bindD_some, ifB_of _ _ (by rfl), eqp_f (by simp), bindD_some]
      rfl
    | true =>
      obtain ⟨_, _, ha, hb, rfl⟩ := errP_V hv
      rcases sim_f ha hb hv with ⟨_, h1, h2⟩ | ⟨hw, l, hl, h0, h1, h2⟩
      · rw [h1, h2, bindD_some, bindD_some, ifB_of _ _ (by rfl), eqp_f (by simp), bindD_some]; rfl
      · rw [h1, h2, bindD_some, bindD_some, ifB_of _ _ (by rfl), eqp_f (show l.length < 1000000 by omega), bindD_some, ifB_true, ifB_not _ _ (by rfl), (check_same ha hb hv hl).1, bindD_some, sim_check ha hb hw h0]
end
end Go.Proofs.C28
