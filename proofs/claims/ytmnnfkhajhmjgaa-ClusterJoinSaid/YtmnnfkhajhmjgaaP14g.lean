/- Plain words for the chapter of clusters: what is joined is closed if a part is. -/
import Derived.Test.YtmnnfkhajhmjgaaP14f
set_option linter.unusedVariables false
set_option linter.unusedSimpArgs false
namespace Go.Proofs.C14
open Go Go.Proofs.R
set_option linter.unusedVariables false
set_option maxRecDepth 100000

theorem core_app : ∀ (a b : List Snd) (i : Nat), coreL (a ++ b) i = coreL a i ++ coreL b (i + a.length)
  | [], b, i => by simp [coreL]
  | x :: a, b, i => by
    have ih := core_app a b (i + 1)
    have e : i + (x :: a).length = i + 1 + a.length := by simp only [List.length_cons]; omega
    simp only [List.cons_append, coreL, ih, e]
    cases (x.1 != 9) <;> simp
theorem core_off (n : Nat) : ∀ (l : List Snd) (i : Nat), coreL l (i + n) = (coreL l i).map (· + (n : Int))
  | [], _ => rfl
  | x :: l, i => by
    have ih := core_off n l (i + 1)
    have e : i + 1 + n = i + n + 1 := by omega
    rw [e] at ih
    simp only [coreL, ih]
    cases (x.1 != 9) <;> simp
theorem core_one {xs : List Snd} {p : Int} (h : coreL xs 0 = [p]) (hb : 1 < beats xs) : kd xs p = 7 := by
  have key : ∀ (l : List Snd) (i : Nat) (q : Int), coreL l i = [q] → ∃ pre x post, l = pre ++ x :: post ∧ q = ((i + pre.length : Nat) : Int) ∧ beats pre = 0 ∧ beats post = 0 := by
    intro l
    induction l with
    | nil => intro i q h; cases h
    | cons x l ih =>
      intro i q h
      simp only [coreL] at h
      cases hx : (x.1 != 9)
      · rw [hx] at h
        obtain ⟨pre, y, post, h1, h2, h3, h4⟩ := ih (i + 1) q h
        refine ⟨x :: pre, y, post, by rw [h1]; rfl, by rw [h2]; simp only [List.length_cons]; congr 1; omega, ?_, h4⟩
        have h9 : x.1 = 9 := by simpa using hx
        simp only [beats, h3, h9]; decide
      · rw [hx] at h
        simp only [cond_true, List.cons.injEq] at h
        exact ⟨[], x, l, rfl, by rw [← h.1]; simp, rfl, core_nil l _ h.2⟩
  obtain ⟨pre, x, post, h1, h2, h3, h4⟩ := key xs 0 p h
  have hk : kd xs p = x.1 := by
    unfold kd
    rw [h2, Nat.zero_add, h1, ixAt_at]
  rw [hk]
  rw [h1, beats_app] at hb
  simp only [beats, h3, h4] at hb
  unfold beat at hb
  by_cases h7 : x.1 = 7
  · exact h7
  · rw [beq_eq_false_iff_ne.2 h7] at hb
    revert hb
    cases (decide (x.1 ≥ 3) && decide (x.1 ≤ 8)) <;> simp
/-- what stands between: mute and liquid, with breaks -/
def opens (xs : List Snd) (bs : List Int) : Prop :=
  ∃ a b, coreL xs 0 = [a, b] ∧ kd xs a = 3 ∧ kd xs b = 4 ∧ (bs = [] ∨ (∃ c l, bs = c :: l ∧ (c > b ∨ (c :: l).getLast (by simp) ≤ a)))
theorem cls_iff (xs : List Snd) (bs : List Int) : cls xs bs = 4 ↔ 1 < beats xs ∧ ¬ opens xs bs := by
  unfold cls
  by_cases hb : beats xs ≤ 1
  · rw [decide_eq_true hb]; simp only [cond_true]
    constructor
    · intro h; cases h
    · intro h; omega
  · rw [decide_eq_false hb]; simp only [cond_false]
    have h1 : 1 < beats xs := by omega
    constructor
    · intro h
      refine ⟨h1, ?_⟩
      rintro ⟨a, b, hK, ha, hbb, hbs⟩
      rw [hK] at h
      simp only [ha, hbb] at h
      rcases hbs with rfl | ⟨c, l, rfl, hc⟩
      · cases h
      · rcases hc with hc | hc
        · simp only [decide_eq_true hc] at h; cases h
        · have h : (bif decide (c > b) then (2 : Int) else bif decide ((c :: l).getLast (by simp) ≤ a) then 3 else 4) = 4 := h
          rw [decide_eq_true hc] at h
          revert h
          cases decide (c > b) <;> simp
    · rintro ⟨_, hno⟩
      split
      · rename_i a b hK
        cases h3 : (kd xs a != 3)
        · cases h4 : (kd xs b != 4)
          · have h3 : kd xs a = 3 := by simpa using h3
            have h4 : kd xs b = 4 := by simpa using h4
            cases bs with
            | nil => exact absurd ⟨a, b, hK, h3, h4, .inl rfl⟩ hno
            | cons c l =>
              simp only [cond_false]
              cases h5 : decide (c > b)
              · cases h6 : decide ((c :: l).getLast (by simp) ≤ a)
                · rfl
                · exact absurd ⟨a, b, hK, h3, h4, .inr ⟨c, l, rfl, .inr (of_decide_eq_true h6)⟩⟩ hno
              · exact absurd ⟨a, b, hK, h3, h4, .inr ⟨c, l, rfl, .inl (of_decide_eq_true h5)⟩⟩ hno
          · rfl
        · rfl
      · rfl
theorem ixAt_app_l {xs ys : List Snd} {a : Int} (h0 : 0 ≤ a) (h : a < (xs.length : Nat)) : ixAt (xs ++ ys) a = ixAt xs a := by
  obtain ⟨n, rfl⟩ : ∃ n : Nat, a = n := ⟨a.toNat, by omega⟩
  rw [ixAt_nat, ixAt_nat, List.getElem?_append_left (by omega)]
theorem ixAt_app_r {xs ys : List Snd} {a : Int} (h0 : 0 ≤ a) : ixAt (xs ++ ys) (a + (xs.length : Nat)) = ixAt ys a := by
  obtain ⟨n, rfl⟩ : ∃ n : Nat, a = n := ⟨a.toNat, by omega⟩
  have : ((n : Nat) : Int) + ((xs.length : Nat) : Int) = ((n + xs.length : Nat) : Int) := by omega
  rw [this, ixAt_nat, ixAt_nat, List.getElem?_append_right (by omega)]
  congr 1; omega
theorem closed_join {xs ys : List Snd} {bs cs : List Int} (hx : valid xs bs = 0) (hy : valid ys cs = 0) (h : cls xs bs = 4 ∨ cls ys cs = 4) : cls (xs ++ ys) (bs ++ addB (xs.length : Nat) cs) = 4 := by
  obtain ⟨lx, _, _⟩ := valid_small hx
  obtain ⟨ly, _, _⟩ := valid_small hy
  obtain ⟨ax, bx, _⟩ := valid_asc hx
  obtain ⟨ay, by_, _⟩ := valid_asc hy
  have hadd : addB (xs.length : Nat) cs = cs.map (· + ((xs.length : Nat) : Int)) := by
    unfold addB
    apply List.map_congr_left
    intro c hc
    have := by_ c hc
    rw [w64 (by omega)]
  have hcore : coreL (xs ++ ys) 0 = coreL xs 0 ++ (coreL ys 0).map (· + ((xs.length : Nat) : Int)) := by
    rw [core_app, Nat.zero_add]
    have := core_off xs.length ys 0
    rw [Nat.zero_add] at this
    rw [this]
  have bX := beats_bd xs; have bY := beats_bd ys
  rw [cls_iff] at h ⊢
  rw [cls_iff] at h
  rw [beats_app]
  refine ⟨by omega, ?_⟩
  rintro ⟨a, b, hK, ha, hb, hbs⟩
  rw [hcore] at hK
  have hm := core_mem xs 0
  have hmy := core_mem ys 0
  match hcx : coreL xs 0, hcy : coreL ys 0 with
  | [], [] =>
    have h1 := core_nil xs 0 hcx
    have h2 := core_nil ys 0 hcy
    rcases h with ⟨h, _⟩ | ⟨h, _⟩ <;> omega
  | [], q :: K =>
    rw [hcx, hcy] at hK
    have h1 := core_nil xs 0 hcx
    have hno : ¬ opens ys cs ∧ 1 < beats ys := by
      rcases h with ⟨h, _⟩ | ⟨h, h'⟩
      · omega
      · exact ⟨h', h⟩
    match K, hK with
    | [r], hK =>
      simp only [List.nil_append, List.map_cons, List.map_nil, List.cons.injEq, and_true] at hK
      obtain ⟨rfl, rfl⟩ := hK
      obtain ⟨nq, e1, e2⟩ := hmy q (by rw [hcy]; simp)
      obtain ⟨nr, e3, e4⟩ := hmy r (by rw [hcy]; simp)
      have k1 : kd (xs ++ ys) (q + ((xs.length : Nat) : Int)) = kd ys q := by unfold kd; rw [ixAt_app_r (by omega)]
      have k2 : kd (xs ++ ys) (r + ((xs.length : Nat) : Int)) = kd ys r := by unfold kd; rw [ixAt_app_r (by omega)]
      rw [k1] at ha; rw [k2] at hb
      refine hno.1 ⟨q, r, hcy, ha, hb, ?_⟩
      have hne : cs ≠ [] ∨ cs = [] := by cases cs <;> simp
      rcases hne with hne | rfl
      · right
        obtain ⟨c, l, rfl⟩ : ∃ c l, cs = c :: l := by
          cases cs with
          | nil => exact absurd rfl hne
          | cons c l => exact ⟨c, l, rfl⟩
        refine ⟨c, l, rfl, ?_⟩
        rcases hbs with hbs | ⟨c', l', hbs, hc⟩
        · rw [hadd] at hbs; simp at hbs
        · have hlast : (c' :: l').getLast (by simp) = (c :: l).getLast (by simp) + ((xs.length : Nat) : Int) := by
            have : ∀ (L : List Int) (hL : L ≠ []), L = bs ++ (c :: l).map (· + ((xs.length : Nat) : Int)) → L.getLast hL = (c :: l).getLast (by simp) + ((xs.length : Nat) : Int) := by
              rintro L hL rfl
              rw [List.getLast_append_of_ne_nil _ (by simp), List.getLast_map (f := fun x : Int => x + ((xs.length : Nat) : Int)) (by simp)]
            exact this _ _ (by rw [← hbs, hadd])
          rcases hc with hc | hc
          · left
            cases bs with
            | nil =>
              rw [hadd] at hbs
              simp only [List.nil_append, List.map_cons, List.cons.injEq] at hbs
              omega
            | cons b0 bl =>
              simp only [List.cons_append, List.cons.injEq] at hbs
              have := bx b0 (by simp)
              omega
          · right; rw [hlast] at hc; omega
      · exact .inl rfl
  | [p], [] =>
    rw [hcx, hcy] at hK
    simp at hK
  | [p], [q] =>
    rw [hcx, hcy] at hK
    simp only [List.map_cons, List.map_nil, List.cons_append, List.nil_append, List.cons.injEq, and_true] at hK
    obtain ⟨rfl, rfl⟩ := hK
    obtain ⟨np, e1, e2⟩ := hm p (by rw [hcx]; simp)
    obtain ⟨nq, e3, e4⟩ := hmy q (by rw [hcy]; simp)
    have k1 : kd (xs ++ ys) p = kd xs p := by unfold kd; rw [ixAt_app_l (by omega) (by omega)]
    have k2 : kd (xs ++ ys) (q + ((xs.length : Nat) : Int)) = kd ys q := by unfold kd; rw [ixAt_app_r (by omega)]
    rw [k1] at ha; rw [k2] at hb
    rcases h with ⟨h, _⟩ | ⟨h, _⟩
    · rw [core_one hcx h] at ha; omega
    · rw [core_one hcy h] at hb; omega
  | [p], q :: r :: K =>
    rw [hcx, hcy] at hK
    simp at hK
  | [p, q], [] =>
    rw [hcx, hcy] at hK
    simp only [List.map_nil, List.append_nil, List.cons.injEq, and_true] at hK
    obtain ⟨rfl, rfl⟩ := hK
    have h2 := core_nil ys 0 hcy
    have hno : ¬ opens xs bs := by
      rcases h with ⟨_, h⟩ | ⟨h, _⟩
      · exact h
      · omega
    obtain ⟨np, e1, e2⟩ := hm p (by rw [hcx]; simp)
    obtain ⟨nq, e3, e4⟩ := hm q (by rw [hcx]; simp)
    have k1 : kd (xs ++ ys) p = kd xs p := by unfold kd; rw [ixAt_app_l (by omega) (by omega)]
    have k2 : kd (xs ++ ys) q = kd xs q := by unfold kd; rw [ixAt_app_l (by omega) (by omega)]
    rw [k1] at ha; rw [k2] at hb
    refine hno ⟨p, q, hcx, ha, hb, ?_⟩
    cases bs with
    | nil => exact .inl rfl
    | cons c l =>
      right
      refine ⟨c, l, rfl, ?_⟩
      rcases hbs with hbs | ⟨c', l', hbs, hc⟩
      · simp at hbs
      · have hh : c' = c := by simp only [List.cons_append, List.cons.injEq] at hbs; exact hbs.1.symm
        subst hh
        rcases hc with hc | hc
        · exact .inl hc
        · right
          cases cs with
          | nil =>
            rw [hadd] at hbs
            simp only [List.map_nil, List.append_nil] at hbs
            have : ∀ (L : List Int) (hL : L ≠ []), L = c' :: l → L.getLast hL ≤ p → (c' :: l).getLast (by simp) ≤ p := by
              rintro L hL rfl h; exact h
            exact this _ _ hbs.symm hc
          | cons d m =>
            exfalso
            have hlast : (c' :: l').getLast (by simp) = (d :: m).getLast (by simp) + ((xs.length : Nat) : Int) := by
              have : ∀ (L : List Int) (hL : L ≠ []), L = (c' :: l) ++ (d :: m).map (· + ((xs.length : Nat) : Int)) → L.getLast hL = (d :: m).getLast (by simp) + ((xs.length : Nat) : Int) := by
                rintro L hL rfl
                rw [List.getLast_append_of_ne_nil _ (by simp), List.getLast_map (f := fun x : Int => x + ((xs.length : Nat) : Int)) (by simp)]
              exact this _ _ (by rw [← hbs, hadd])
            have := by_ _ (List.getLast_mem (l := d :: m) (by simp))
            rw [hlast] at hc; omega
  | [p, q], r :: K =>
    rw [hcx, hcy] at hK
    simp at hK
  | p :: q :: r :: K, K' =>
    rw [hcx, hcy] at hK
    simp at hK
theorem join_law (xs : List Snd) (bs : List Int) (ys : List Snd) (cs : List Int) : ancepslaw14_ClusterJoin.f xs bs ys cs = some (true, ()) := by
  rw [ancepslaw14_ClusterJoin.f_eq, awake_f]
  obtain ⟨b1, e1, s1⟩ := Few_f xs bs
  obtain ⟨b2, e2, s2⟩ := Few_f ys cs
  rw [e1, e2]
  cases b1
  · rfl
  cases b2
  · rfl
  have s1 := s1 rfl; have s2 := s2 rfl
  have hlen : (jn xs bs ys cs).1.length ≤ 40 ∧ (jn xs bs ys cs).2.1.length ≤ 40 := by
    unfold jn
    cases (valid xs bs != 0)
    · cases (valid ys cs != 0)
      · cases decide (((xs.length + ys.length : Nat) : Int) > 12)
        · cases decide (((bs.length + cs.length : Nat) : Int) > 12)
          · simp only [cond_false, List.length_append, addB, List.length_map]; omega
          · simp
        · simp
      · simp
    · simp
  simp only [bindD_some, Bool.not_true, ifB_false, copied_f s1, copied_f s2, Join_f, refJoin_f, bne_self_eq_false]
  rw [refSame14_self (by omega) (by omega)]
  simp only [bindD_some, Bool.not_true, ifB_false, beq_self_eq_true, ifB_true]
  cases he : ((jn xs bs ys cs).2.2.1 != 0)
  · have he : (jn xs bs ys cs).2.2.1 = 0 := by simpa using he
    unfold jn at he ⊢
    cases h1 : (valid xs bs != 0)
    · cases h2 : (valid ys cs != 0)
      · cases h3 : decide (((xs.length + ys.length : Nat) : Int) > 12)
        · cases h4 : decide (((bs.length + cs.length : Nat) : Int) > 12)
          · have h1 : valid xs bs = 0 := by simpa using h1
            have h2 : valid ys cs = 0 := by simpa using h2
            have h3 := of_decide_eq_false h3; have h4 := of_decide_eq_false h4
            obtain ⟨ax, bx, cx⟩ := valid_asc h1
            obtain ⟨ay, by_, cy⟩ := valid_asc h2
            have hadd : addB (xs.length : Nat) cs = cs.map (· + ((xs.length : Nat) : Int)) := by
              unfold addB
              apply List.map_congr_left
              intro c hc
              have := by_ c hc
              rw [w64 (by omega)]
            have hasc : Asc 0 (bs ++ addB (xs.length : Nat) cs) := by
              have key : ∀ (l : List Int) (a : Int), Asc a l → (∀ b ∈ l, b ≤ (xs.length : Nat)) → a ≤ (xs.length : Nat) → Asc a (l ++ addB (xs.length : Nat) cs) := by
                intro l
                induction l with
                | nil =>
                  intro a _ _ ha
                  rw [hadd]
                  have hm : ∀ (l : List Int) (a : Int), Asc a l → Asc (a + ((xs.length : Nat) : Int)) (l.map (· + ((xs.length : Nat) : Int))) := by
                    intro l
                    induction l with
                    | nil => intro a _; trivial
                    | cons x l ih => intro a h; exact ⟨by have := h.1; show a + _ ≤ x + _; omega, ih x h.2⟩
                  exact asc_down (hm cs 0 ay) (by omega)
                | cons x l ih => intro a h hb ha; exact ⟨h.1, ih x h.2 (fun b hm => hb b (by simp [hm])) (hb x (by simp))⟩
              exact key bs 0 ax (fun b hm => (bx b hm).2) (by omega)
            have V : valid (xs ++ ys) (bs ++ addB (xs.length : Nat) cs) = 0 := by
              refine valid_of (by rw [List.length_append]; omega) (by rw [List.length_append]; unfold addB; rw [List.length_map]; omega) hasc ?_ ?_
              · intro b hb
                rw [List.length_append]
                rcases List.mem_append.1 hb with hb | hb
                · have := bx b hb; omega
                · rw [hadd] at hb
                  obtain ⟨c, hc, rfl⟩ := List.mem_map.1 hb
                  have := by_ c hc; omega
              · intro x hx
                rcases List.mem_append.1 hx with hx | hx
                · exact cx x hx
                · exact cy x hx
            simp only [cond_false, ifB_false, Class_f, h1, h2, V, bindD_some, bne_self_eq_false, beq_self_eq_true, ifB_true]
            have b1 := beats_bd xs; have b2 := beats_bd ys
            rw [Beats_f (xs := xs ++ ys) (by rw [List.length_append]; omega), Beats_f (xs := xs) (by omega), Beats_f (xs := ys) (by omega)]
            simp only [bindD_some]
            rw [w64 (n := beats xs + beats ys) (by omega), beats_app]
            simp only [beq_self_eq_true, ifB_true]
            by_cases hz : cls (xs ++ ys) (bs ++ addB (xs.length : Nat) cs) = 4
            · rw [hz]; rfl
            · have hnx : cls xs bs ≠ 4 := fun h => hz (closed_join h1 h2 (.inl h))
              have hny : cls ys cs ≠ 4 := fun h => hz (closed_join h1 h2 (.inr h))
              rw [beq_eq_false_iff_ne.2 hz, bne_iff_ne.2 hnx, bne_iff_ne.2 hny]; rfl
          · rw [h1, h2, h3, h4] at he; cases he
        · rw [h1, h2, h3] at he; cases he
      · rw [h1, h2] at he
        simp only [cond_true, cond_false] at he
        rw [he] at h2; cases h2
    · rw [h1] at he
      simp only [cond_true] at he
      rw [he] at h1; cases h1
  · rfl
end Go.Proofs.C14
