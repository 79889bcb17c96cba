/- Plain words for the chapter of clusters: class, coda, core, order. -/
import Derived.Test.YtclcobhnoliknaaP15a
set_option linter.unusedVariables false
set_option linter.unusedSimpArgs false
namespace Go.Proofs.C15
open Go Go.Proofs.R

/-- the indices of the core are places of the list -/
theorem core_mem : ∀ (l : List Snd) (i : Nat), ∀ a ∈ coreL l i, ∃ n : Nat, a = ((i + n : Nat) : Int) ∧ n < l.length
  | [], _, _, h => by cases h
  | x :: l, i, a, h => by
    simp only [coreL] at h
    have ih := core_mem l (i + 1) a
    cases hx : (x.1 != 9)
    · rw [hx] at h
      obtain ⟨n, h1, h2⟩ := ih h
      exact ⟨n + 1, by rw [h1]; congr 1; omega, by simp only [List.length_cons]; omega⟩
    · rw [hx] at h
      rcases List.mem_cons.1 h with rfl | h
      · exact ⟨0, rfl, by simp⟩
      · obtain ⟨n, h1, h2⟩ := ih h
        exact ⟨n + 1, by rw [h1]; congr 1; omega, by simp only [List.length_cons]; omega⟩
theorem core_ix {xs : List Snd} {a : Int} (h : a ∈ coreL xs 0) : ∃ x, ixAt xs a = some x ∧ x ∈ xs ∧ 0 ≤ a ∧ a < xs.length := by
  obtain ⟨n, h1, h2⟩ := core_mem xs 0 a h
  rw [Nat.zero_add] at h1; subst h1
  exact ⟨xs[n], by rw [ixAt_nat, List.getElem?_eq_getElem h2], List.getElem_mem h2, by omega, by omega⟩
/-- a list without a core has no beats -/
theorem core_nil : ∀ (l : List Snd) (i : Nat), coreL l i = [] → beats l = 0
  | [], _, _ => rfl
  | x :: l, i, h => by
    simp only [coreL] at h
    cases hx : (x.1 != 9)
    · rw [hx] at h
      have : x.1 = 9 := by simpa using hx
      simp only [beats, core_nil l (i + 1) h, this]; decide
    · rw [hx] at h; cases h

/-! the class -/
def kd (xs : List Snd) (a : Int) : Int := match ixAt xs a with | some x => x.1 | none => 0
def cls (xs : List Snd) (bs : List Int) : Int :=
  bif decide (beats xs ≤ 1) then 1 else
    match coreL xs 0 with
    | [a, b] => bif kd xs a != 3 then 4 else bif kd xs b != 4 then 4 else
        match bs with
        | [] => 2
        | c :: l => bif decide (c > b) then 2 else bif decide ((c :: l).getLast (by simp) ≤ a) then 3 else 4
    | _ => 4
theorem ixAt_last {α : Type} {l : List α} (h : l ≠ []) (hl : l.length < 1000000) : ixAt l (IntKind.i64.wrap (((l.length : Nat) : Int) - 1)) = some (l.getLast h) := by
  have h1 : 0 < l.length := List.length_pos_iff.2 h
  have h2 : ((l.length : Nat) : Int) - 1 = ((l.length - 1 : Nat) : Int) := by omega
  rw [w64 (by omega), h2, ixAt_nat, List.getLast_eq_getElem, List.getElem?_eq_getElem]
theorem class_f {xs : List Snd} {bs : List Int} (h : xs.length < 1000000) (hb : bs.length < 1000000) : cluster_class.f xs bs = some (cls xs bs, ()) := by
  rw [cluster_class.f_eq, Beats_f (by omega), core_f bs h]; unfold cls
  simp only [bindD_some]
  cases hbt : decide (beats xs ≤ 1)
  · have hm := fun a => core_ix (xs := xs) (a := a)
    generalize coreL xs 0 = K at hm ⊢
    match K, hm with
    | [], _ => rfl
    | [_], _ => rfl
    | [a, b], hm =>
      obtain ⟨x, h1, _⟩ := hm a (by simp)
      obtain ⟨y, h2, _⟩ := hm b (by simp)
      have e1 : ixAt [a, b] (0 : Int) = some a := ixAt_nat [a, b] 0
      have e2 : ixAt [a, b] (1 : Int) = some b := ixAt_nat [a, b] 1
      simp only [e1, e2, bindD_some, h1, h2, kd, ifB_false, cond_false]
      have e3 : ((([a, b].length : Nat) : Int) != 2) = false := rfl
      rw [e3, ifB_false]
      cases x.1 != 3
      · cases y.1 != 4
        · cases bs with
          | nil => rfl
          | cons c l =>
            have e4 : ((((c :: l).length : Nat) : Int) == 0) = false := by rw [beq_eq_false_iff_ne]; simp only [List.length_cons]; omega
            rw [e4, ixAt_zero, ixAt_last (by simp) hb]
            simp only [bindD_some, ifB_false, cond_false]
            cases decide (c > b) <;> cases decide ((c :: l).getLast (by simp) ≤ a) <;> rfl
        · rfl
      · rfl
    | a :: b :: c :: l, _ =>
      have e3 : (((((a :: b :: c :: l).length : Nat) : Int)) != 2) = true := by rw [bne_iff_ne]; simp only [List.length_cons]; omega
      rw [e3]; rfl
  · rfl

theorem refclass_l8 (xs : List Snd) (a b : Int) : ∀ (suf pre : List Int) (be ah : Bool), (pre ++ suf).length < 1000000 →
    ancepsref14_class.l8 be ah (pre.length : Nat) xs (pre ++ suf) [a, b] = some (bif be && suf.all (fun x => decide (x > b)) then 2 else bif ah && suf.all (fun x => decide (x ≤ a)) then 3 else 4, ())
  | [], pre, be, ah, h => by
    rw [ancepsref14_class.l8_eq, ifB_not _ _ (lt_end pre)]; cases be <;> cases ah <;> rfl
  | x :: suf, pre, be, ah, h => by
    have e1 : ixAt [a, b] (0 : Int) = some a := ixAt_nat [a, b] 0
    have e2 : ixAt [a, b] (1 : Int) = some b := ixAt_nat [a, b] 1
    rw [ancepsref14_class.l8_eq, ifB_of _ _ (lt_at pre x suf), ixAt_at, e1, e2]
    simp only [bindD_some]
    have hl : pre.length < 1000000 := by simp only [List.length_append] at h; omega
    rw [w_pre pre x (by omega), app_at pre x suf]
    have ih := fun be ah => refclass_l8 xs a b suf (pre ++ [x]) be ah (by rw [← app_at]; exact h)
    simp only [ih, List.all_cons]
    cases be <;> cases ah <;> cases decide (x > b) <;> cases decide (x ≤ a) <;> rfl
/-- breaks that stand in order -/
def Asc : Int → List Int → Prop
  | _, [] => True
  | a, b :: l => a ≤ b ∧ Asc b l
theorem vB_asc {n : Nat} : ∀ {l : List Int} {last : Int}, vB n last l = 0 → Asc last l ∧ ∀ b ∈ l, 0 ≤ b ∧ b ≤ n
  | [], _, _ => ⟨trivial, fun _ h => by cases h⟩
  | b :: l, last, h => by
    simp only [vB] at h
    cases h1 : decide (b < 0)
    · cases h2 : decide (b > (n : Int))
      · cases h3 : decide (b < last)
        · rw [h1, h2, h3] at h
          obtain ⟨i1, i2⟩ := vB_asc (l := l) (last := b) h
          have h1 := of_decide_eq_false h1; have h2 := of_decide_eq_false h2; have h3 := of_decide_eq_false h3
          refine ⟨⟨by omega, i1⟩, ?_⟩
          intro c hc; rcases List.mem_cons.1 hc with rfl | hc
          · omega
          · exact i2 c hc
        · rw [h1, h2, h3] at h; cases h
      · rw [h1, h2] at h; cases h
    · rw [h1] at h; cases h
theorem vB_of {n : Nat} : ∀ {l : List Int} {last : Int}, Asc last l → (∀ b ∈ l, 0 ≤ b ∧ b ≤ n) → vB n last l = 0
  | [], _, _, _ => rfl
  | b :: l, last, h, hb => by
    have := hb b (by simp)
    simp only [vB]
    rw [decide_eq_false (show ¬ b < 0 by omega), decide_eq_false (show ¬ b > (n : Int) by omega), decide_eq_false (show ¬ b < last by have := h.1; omega)]
    exact vB_of h.2 fun c hc => hb c (by simp [hc])
theorem asc_ge : ∀ {l : List Int} {a : Int}, Asc a l → ∀ b ∈ l, a ≤ b
  | [], _, _, _, h => by cases h
  | c :: l, a, ⟨h1, h2⟩, b, h => by
    rcases List.mem_cons.1 h with rfl | h
    · exact h1
    · have := asc_ge h2 b h; omega
theorem asc_le : ∀ {l : List Int} {a : Int} (c : Int), Asc c (a :: l) → ∀ b ∈ a :: l, b ≤ (a :: l).getLast (by simp)
  | [], a, c, _, b, h => by simp at h; subst h; simp
  | d :: l, a, c, ⟨h1, h2⟩, b, h => by
    have ih := asc_le a h2
    rw [List.getLast_cons (by simp)]
    rcases List.mem_cons.1 h with rfl | h
    · have := ih d (by simp); have := h2.1; omega
    · exact ih b h
theorem vS_vB {z : Int} : ∀ {xs : List Snd}, vS z xs = 0 → z = 0 ∧ ∀ x ∈ xs, sval x.1 x.2.1 x.2.2 = 0 ∧ nuc x.1 = false
  | [], h => ⟨h, fun _ h => by cases h⟩
  | x :: l, h => by
    simp only [vS] at h
    cases h1 : (sval x.1 x.2.1 x.2.2 != 0)
    · cases h2 : nuc x.1
      · rw [h1, h2] at h
        obtain ⟨i1, i2⟩ := vS_vB (xs := l) h
        refine ⟨i1, fun y hy => ?_⟩
        rcases List.mem_cons.1 hy with rfl | hy
        · exact ⟨by simpa using h1, h2⟩
        · exact i2 y hy
      · rw [h1, h2] at h; cases h
    · rw [h1] at h
      simp at h1; exact absurd h h1
theorem vS_of : ∀ {xs : List Snd}, (∀ x ∈ xs, sval x.1 x.2.1 x.2.2 = 0 ∧ nuc x.1 = false) → vS 0 xs = 0
  | [], _ => rfl
  | x :: l, h => by
    have := h x (by simp)
    simp only [vS, this.1, this.2]
    exact vS_of fun y hy => h y (by simp [hy])
theorem valid_asc {xs : List Snd} {bs : List Int} (h : valid xs bs = 0) : Asc 0 bs ∧ (∀ b ∈ bs, 0 ≤ b ∧ b ≤ xs.length) ∧ ∀ x ∈ xs, sval x.1 x.2.1 x.2.2 = 0 ∧ nuc x.1 = false := by
  obtain ⟨_, _, h⟩ := valid_small h
  obtain ⟨h1, h2⟩ := vS_vB h
  obtain ⟨h3, h4⟩ := vB_asc h1
  exact ⟨h3, h4, h2⟩
theorem valid_of {xs : List Snd} {bs : List Int} (h1 : xs.length ≤ 12) (h2 : bs.length ≤ 12) (h3 : Asc 0 bs) (h4 : ∀ b ∈ bs, 0 ≤ b ∧ b ≤ xs.length) (h5 : ∀ x ∈ xs, sval x.1 x.2.1 x.2.2 = 0 ∧ nuc x.1 = false) : valid xs bs = 0 := by
  unfold valid
  rw [decide_eq_false (by omega), decide_eq_false (by omega), vB_of h3 h4]
  exact vS_of h5
theorem refclass_f {xs : List Snd} {bs : List Int} (h : xs.length < 1000000) (hb : bs.length < 1000000) (ha : Asc 0 bs) : ancepsref14_class.f xs bs = some (cls xs bs, ()) := by
  rw [ancepsref14_class.f_eq, refBeats_f (by omega), refcore_f bs h]; unfold cls
  simp only [bindD_some]
  cases hbt : decide (beats xs ≤ 1)
  · have hm := fun a => core_ix (xs := xs) (a := a)
    generalize coreL xs 0 = K at hm ⊢
    match K, hm with
    | [], _ => rfl
    | [_], _ => rfl
    | [a, b], hm =>
      obtain ⟨x, h1, _⟩ := hm a (by simp)
      obtain ⟨y, h2, _⟩ := hm b (by simp)
      have e1 : ixAt [a, b] (0 : Int) = some a := ixAt_nat [a, b] 0
      have e2 : ixAt [a, b] (1 : Int) = some b := ixAt_nat [a, b] 1
      simp only [e1, e2, bindD_some, h1, h2, kd, ifB_false, cond_false]
      have e3 : ((([a, b].length : Nat) : Int) != 2) = false := rfl
      rw [e3, ifB_false]
      have h8 := fun ah => refclass_l8 xs a b bs [] true ah hb
      simp only [List.nil_append, List.length_nil, Int.ofNat_zero] at h8
      have h8' : ancepsref14_class.l8 true (decide (((bs.length : Nat) : Int) > 0)) 0 xs bs [a, b] = _ := h8 _
      rw [h8']
      cases x.1 != 3
      · cases y.1 != 4
        · cases bs with
          | nil => rfl
          | cons c l =>
            have e4 : decide ((((c :: l).length : Nat) : Int) > 0) = true := decide_eq_true (by simp only [List.length_cons]; omega)
            have e5 : (c :: l).all (fun x => decide (x > b)) = decide (c > b) := by
              rw [Bool.eq_iff_iff, List.all_eq_true, decide_eq_true_iff]
              refine ⟨fun h => of_decide_eq_true (h c (by simp)), fun h y hy => decide_eq_true ?_⟩
              rcases List.mem_cons.1 hy with rfl | hy
              · exact h
              · have := asc_ge ha.2 y hy; omega
            have e6 : (c :: l).all (fun x => decide (x ≤ a)) = decide ((c :: l).getLast (by simp) ≤ a) := by
              rw [Bool.eq_iff_iff, List.all_eq_true, decide_eq_true_iff]
              refine ⟨fun h => of_decide_eq_true (h _ (List.getLast_mem (by simp))), fun h y hy => decide_eq_true ?_⟩
              have := asc_le 0 ha y hy; omega
            rw [e4, e5, e6]; simp only [Bool.true_and, ifB_false, cond_false]
        · rfl
      · rfl
    | a :: b :: c :: l, _ =>
      have e3 : (((((a :: b :: c :: l).length : Nat) : Int)) != 2) = true := by rw [bne_iff_ne]; simp only [List.length_cons]; omega
      rw [e3]; rfl
  · rfl

/-! the coda -/
def coda (xs : List Snd) (bs : List Int) : Int :=
  bif cls xs bs != 4 then 0 else match (coreL xs 0).getLast? with
    | some a => bif kd xs a == 7 then a + 1 else a
    | none => 0
theorem cls_core {xs : List Snd} {bs : List Int} (h : cls xs bs = 4) : 1 < beats xs ∧ coreL xs 0 ≠ [] := by
  unfold cls at h
  cases hb : decide (beats xs ≤ 1)
  · have hb := of_decide_eq_false hb
    refine ⟨by omega, fun hc => ?_⟩
    have := core_nil xs 0 hc; omega
  · rw [hb] at h; cases h
theorem Coda_tail {xs : List Snd} {bs : List Int} (h : xs.length < 1000000) (hc : cls xs bs = 4) : ∃ a x, ixAt (coreL xs 0) (IntKind.i64.wrap ((((coreL xs 0).length : Nat) : Int) - 1)) = some a ∧ ixAt xs a = some x ∧ IntKind.i64.wrap (a + 1) = a + 1 ∧
    coda xs bs = bif x.1 == 7 then a + 1 else a := by
  obtain ⟨_, hne⟩ := cls_core hc
  have hlast := ixAt_last hne (by have := core_len xs 0; omega)
  obtain ⟨x, h1, _, h2, h3⟩ := core_ix (List.getLast_mem hne)
  refine ⟨_, x, hlast, h1, w64 (by omega), ?_⟩
  unfold coda
  rw [hc, List.getLast?_eq_some_getLast hne]; simp only [kd, h1]; rfl
theorem Coda_f (xs : List Snd) (bs : List Int) : cluster_Coda.f xs bs = some (bif valid xs bs != 0 then 0 else coda xs bs, (valid xs bs, ())) := by
  rw [cluster_Coda.f_eq, Valid_f, bindD_some]
  cases h : (valid xs bs != 0)
  · have h : valid xs bs = 0 := by simpa using h
    obtain ⟨h1, h2, _⟩ := valid_small h
    rw [class_f (by omega) (by omega), h, bindD_some, core_f bs (by omega)]
    simp only [ifB_false, cond_false]
    by_cases hc : cls xs bs = 4
    · obtain ⟨a, x, e1, e2, e3, e4⟩ := Coda_tail (by omega) hc
      rw [hc, e4]; simp only [bindD_some, e1, e2, e3]
      cases (x.1 == 7) <;> rfl
    · have : (cls xs bs != 4) = true := by simpa using hc
      unfold coda; rw [this]; rfl
  · rfl
theorem refCoda_f (xs : List Snd) (bs : List Int) : ancepsref14_Coda.f xs bs = some (bif valid xs bs != 0 then 0 else coda xs bs, (valid xs bs, ())) := by
  rw [ancepsref14_Coda.f_eq, refValid_f, bindD_some]
  cases h : (valid xs bs != 0)
  · have h : valid xs bs = 0 := by simpa using h
    obtain ⟨h1, h2, _⟩ := valid_small h
    rw [refclass_f (by omega) (by omega) (valid_asc h).1, h, bindD_some, refcore_f bs (by omega)]
    simp only [ifB_false, cond_false]
    by_cases hc : cls xs bs = 4
    · obtain ⟨a, x, e1, e2, e3, e4⟩ := Coda_tail (by omega) hc
      rw [hc, e4]; simp only [bindD_some, e1, e2, e3]
      cases (x.1 == 7) <;> rfl
    · have : (cls xs bs != 4) = true := by simpa using hc
      unfold coda; rw [this]; rfl
  · rfl

end Go.Proofs.C15
