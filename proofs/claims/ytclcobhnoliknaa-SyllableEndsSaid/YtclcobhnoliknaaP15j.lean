/- Plain words for the chapter of syllables: words and their ends. -/
import Derived.Test.YtclcobhnoliknaaP15i
set_option linter.unusedVariables false
set_option linter.unusedSimpArgs false
namespace Go.Proofs.C15
open Go Go.Proofs.R
set_option linter.unusedVariables false
set_option linter.unusedSimpArgs false
set_option maxRecDepth 100000

/-- the division of a run of nuclei: which nucleus, which word, whether the word ends -/
def Lk (bs : List Int) : List Int → List Syl → Prop
  | [], [] => True
  | [n], [s] => s.2.2.1 = n ∧ s.2.2.2.1 = wc bs n ∧ s.2.2.2.2 = true
  | n :: m :: r, s :: l => s.2.2.1 = n ∧ s.2.2.2.1 = wc bs n ∧ s.2.2.2.2 = (wc bs m != wc bs n) ∧ Lk bs (m :: r) l
  | _, _ => False
theorem divL_lk (xs : List Snd) (bs : List Int) : ∀ (N : List Int) (fr : Int), (divL xs bs fr N).2 = 0 → Lk bs N (divL xs bs fr N).1
  | [], _, _ => trivial
  | [n], _, _ => ⟨rfl, rfl, rfl⟩
  | n :: m :: r, fr, h => by
    have ih := divL_lk xs bs (m :: r) (IntKind.i64.wrap (IntKind.i64.wrap (n + 1) + coda (seg xs n m) (betB n m bs)))
    simp only [divL] at h ⊢
    generalize divL xs bs _ (m :: r) = D at ih h ⊢
    obtain ⟨l, e⟩ := D
    simp only at ih h ⊢
    cases hv : (valid (seg xs n m) (betB n m bs) != 0)
    · rw [hv] at h
      simp only [cond_false] at h ⊢
      cases he : (e != 0)
      · have he' : e = 0 := by simpa using he
        simp only [cond_false]
        exact ⟨rfl, rfl, rfl, ih he'⟩
      · rw [he] at h; simp only [cond_true] at h
        rw [h] at he; cases he
    · rw [hv] at h
      simp only [cond_true] at h
      rw [h] at hv; cases hv

/-- how many rows hold something -/
def full : List (List Int) → Nat
  | [] => 0
  | r :: R => (bif decide (((r.length : Nat) : Int) > 0) then 1 else 0) + full R
def ends : List Syl → Nat
  | [] => 0
  | s :: l => (bif s.2.2.2.2 then 1 else 0) + ends l
theorem full_le : ∀ R, full R ≤ R.length
  | [] => Nat.le_refl _
  | r :: R => by have := full_le R; simp only [full, List.length_cons]; cases decide (((r.length : Nat) : Int) > 0) <;> simp only [cond_true, cond_false] <;> omega
theorem ends_le : ∀ R, ends R ≤ R.length
  | [] => Nat.le_refl _
  | r :: R => by have := ends_le R; simp only [ends, List.length_cons]; cases r.2.2.2.2 <;> simp only [cond_true, cond_false] <;> omega
theorem full_set (y : List Int) (hy : y ≠ []) : ∀ (R : List (List Int)) (k : Nat) (h : k < R.length), full (R.set k y) = full R + (if R[k] = [] then 1 else 0)
  | r :: R, 0, _ => by
    simp only [List.set_cons_zero, full, List.getElem_cons_zero]
    have h1 : decide (((y.length : Nat) : Int) > 0) = true := by
      have := List.length_pos_iff.2 hy
      exact decide_eq_true (by omega)
    rw [h1]
    by_cases hr : r = []
    · subst hr; simp; omega
    · have := List.length_pos_iff.2 hr
      rw [decide_eq_true (by omega : ((r.length : Nat) : Int) > 0), if_neg hr]; simp
  | r :: R, k + 1, h => by
    have := full_set y hy R k (by simpa using h)
    simp only [List.set_cons_succ, full, List.getElem_cons_succ, this]; omega
theorem full_rep : ∀ n : Nat, full (List.replicate n []) = 0
  | 0 => rfl
  | n + 1 => by rw [List.replicate_succ]; simp [full, full_rep n]

theorem rowAt_get {R : List (List Int)} {k : Nat} (h : k < R.length) : rowAt R ((k : Nat) : Int) = R[k] := by
  unfold rowAt; rw [ixAt_nat, List.getElem?_eq_getElem h]; rfl
theorem rowAt_set {R : List (List Int)} {k j : Nat} (y : List Int) (hk : k < R.length) (hj : j < R.length) : rowAt (R.set k y) ((j : Nat) : Int) = if j = k then y else rowAt R ((j : Nat) : Int) := by
  rw [rowAt_get (by simpa using hj), rowAt_get hj, List.getElem_set]
  by_cases h : j = k
  · subst h; simp
  · rw [if_neg h, if_neg (Ne.symm h)]
theorem full_fold {bs : List Int} : ∀ (N : List Int) (L : List Syl) (R : List (List Int)) (n : Int) (r : List Int) (hi lo : Int), N = n :: r → Lk bs N L → Up hi lo N → R.length = bs.length + 1 →
    (∀ j : Nat, j < R.length → wc bs n < (j : Int) → rowAt R (j : Int) = []) →
    full (N.foldl (nst bs) R) + 1 = full R + (if rowAt R (wc bs n) = [] then 1 else 0) + ends L
  | [], _, _, _, _, _, _, h, _, _, _, _ => by cases h
  | n :: r, L, R, n', r', hi, lo, hN, hL, hu, hR, hz => by
    obtain ⟨rfl, rfl⟩ := List.cons.inj hN
    have hw := wc_bd n bs
    obtain ⟨k, hk⟩ : ∃ k : Nat, wc bs n = k := ⟨(wc bs n).toNat, by omega⟩
    have hkR : k < R.length := by omega
    have hset : full (nst bs R n) = full R + (if rowAt R (wc bs n) = [] then 1 else 0) := by
      unfold nst setRow
      rw [hk, Int.toNat_natCast, full_set _ (by simp) R k hkR, rowAt_get hkR]
    have hrow : ∀ j : Nat, j < R.length → rowAt (nst bs R n) (j : Int) = if j = k then rowAt R (wc bs n) ++ [n] else rowAt R (j : Int) := by
      intro j hj
      unfold nst setRow
      rw [hk, Int.toNat_natCast, rowAt_set _ hkR hj]
    rw [List.foldl_cons]
    cases r with
    | nil =>
      cases L with
      | nil => exact hL.elim
      | cons s l =>
        cases l with
        | cons _ _ => exact hL.elim
        | nil => rw [List.foldl_nil, hset]; simp only [ends, hL.2.2, cond_true]
    | cons m r =>
      cases L with
      | nil => exact hL.elim
      | cons s l =>
        obtain ⟨h1, h2, h3, h4⟩ := hL
        obtain ⟨u1, u2, u3⟩ := up_two hu
        have hmono := wc_mono (show n ≤ m by omega) bs
        have hwm := wc_bd m bs
        obtain ⟨k2, hk2⟩ : ∃ k : Nat, wc bs m = k := ⟨(wc bs m).toNat, by omega⟩
        have ih := full_fold (m :: r) l (nst bs R n) m r hi (n + 1) rfl h4 hu.2.2 (by rw [nst_len]; exact hR) (by
          intro j hj hlt
          rw [nst_len] at hj
          rw [hrow j hj, if_neg (by omega)]
          exact hz j hj (by omega))
        rw [ih, hset]
        have hm : rowAt (nst bs R n) (wc bs m) = if k2 = k then rowAt R (wc bs n) ++ [n] else [] := by
          rw [hk2, hrow k2 (by omega)]
          by_cases hq : k2 = k
          · rw [if_pos hq, if_pos hq]
          · rw [if_neg hq, if_neg hq]; exact hz k2 (by omega) (by omega)
        rw [hm]
        simp only [ends, h3]
        by_cases hq : k2 = k
        · have : (wc bs m != wc bs n) = false := by rw [hk, hk2, hq]; simp
          have hne : rowAt R (wc bs n) ++ [n] ≠ [] := by simp
          rw [this, if_pos hq, if_neg hne]; simp only [cond_false]; omega
        · have : (wc bs m != wc bs n) = true := by rw [hk, hk2, bne_iff_ne]; omega
          rw [this, if_neg hq, if_pos (rfl : ([] : List Int) = [])]; simp only [cond_true]; omega

/-! the law -/
theorem Ends_l13 (L : List Syl) (F : List (List Int)) (e : Int) : ∀ (suf pre : List (List Int)) (c : Int), (pre ++ suf).length < 1000000 → 0 ≤ c → c ≤ (pre.length : Nat) →
    ancepslaw15_SyllableEnds.l13 c e ((pre ++ suf).length : Nat) (pre.length : Nat) L (pre ++ suf) F = ancepslaw15_SyllableEnds.l19 (c + (full suf : Nat)) e ((L.length : Nat) : Int) 0 L (pre ++ suf) F
  | [], pre, c, h, _, _ => by rw [ancepslaw15_SyllableEnds.l13_eq, ifB_not _ _ (lt_end pre)]; simp [full]
  | r :: suf, pre, c, h, h0, h1 => by
    have hl : pre.length < 1000000 := by simp only [List.length_append] at h; omega
    rw [ancepslaw15_SyllableEnds.l13_eq, ifB_of _ _ (lt_at pre r suf), ixAt_at, bindD_some, bindD_some, w_pre pre r (by omega), w64 (n := c + 1) (by omega), app_at pre r suf]
    rw [Ends_l13 L F e suf (pre ++ [r]) (c + 1) (by rw [← app_at]; exact h) (by omega) (by simp only [List.length_append, List.length_singleton]; omega),
      Ends_l13 L F e suf (pre ++ [r]) c (by rw [← app_at]; exact h) (by omega) (by simp only [List.length_append, List.length_singleton]; omega)]
    simp only [full]
    cases decide (((r.length : Nat) : Int) > 0) <;> simp only [ifB_true, ifB_false, cond_true, cond_false] <;> (congr 1; omega)
theorem prevG {α : Type} {p : List α} {last : α} {suf : List α} (h : (p ++ [last] ++ suf).length < 1000000) : ixAt (p ++ [last] ++ suf) (IntKind.i64.wrap ((((p ++ [last]).length : Nat) : Int) - 1)) = some last := by
  have hw : IntKind.i64.wrap ((((p ++ [last]).length : Nat) : Int) - 1) = (p.length : Int) := by
    rw [List.length_append, List.length_singleton]
    rw [w64 (by simp only [List.length_append, List.length_cons, List.length_nil] at h; omega)]; omega
  rw [hw, List.append_assoc]; exact ixAt_at p last _
/-- how what is behind meets what is ahead -/
def Meet : List Syl → List Syl → Prop
  | pre, suf => pre = [] ∨ ∃ p y, pre = p ++ [y] ∧ (match suf with
    | [] => y.2.2.2.2 = true
    | s :: _ => y.2.2.2.1 ≤ s.2.2.2.1 ∧ y.2.2.2.2 = (s.2.2.2.1 != y.2.2.2.1))
theorem Ends_l19 {bs : List Int} (hb : bs.length < 1000) {words : List (List Int)} (hw : words.length = bs.length + 1) (hws : ∀ r ∈ words, r.length < 1000000) (W : Int) {hi : Int} : ∀ (suf pre : List Syl) (N : List Int) (lo e : Int) (R : List (List Int)),
    Lk bs N suf → Up hi lo N → Meet pre suf → R.length = bs.length + 1 → (∀ r ∈ R, r.length ≤ pre.length) → 0 ≤ e → e ≤ (pre.length : Nat) → (pre ++ suf).length < 1000000 →
    N.foldl (nst bs) R = words → e + (ends suf : Nat) = W →
    ancepslaw15_SyllableEnds.l19 W e ((pre ++ suf).length : Nat) (pre.length : Nat) (pre ++ suf) words R = some (true, ())
  | [], pre, N, lo, e, R, hL, hu, hm, hR, hs, h0, h1, hl, hf, he => by
    have hN : N = [] := by
      cases N with
      | nil => rfl
      | cons n r => cases r <;> exact hL.elim
    subst hN
    rw [List.foldl_nil] at hf; subst hf
    simp only [ends] at he
    rw [ancepslaw15_SyllableEnds.l19_eq, ifB_not _ _ (lt_end pre), ifB_of _ _ (by simp; omega), eqR_self (by omega) hws]
    rcases hm with rfl | ⟨p, y, rfl, hy⟩
    · rfl
    · rw [ifB_not _ _ (by simp; omega)]
      have := prevG (p := p) (last := y) (suf := []) hl
      rw [List.append_nil] at this ⊢
      rw [this]
      simp only [bindD_some, hy, ifB_true]
  | s :: suf, pre, N, lo, e, R, hL, hu, hm, hR, hs, h0, h1, hl, hf, he => by
    have hpl : pre.length < 1000000 := by simp only [List.length_append] at hl; omega
    obtain ⟨n, N', rfl, hn, hwd, hL', hu', hm'⟩ : ∃ n N', N = n :: N' ∧ s.2.2.1 = n ∧ s.2.2.2.1 = wc bs n ∧ Lk bs N' suf ∧ (∃ lo', Up hi lo' N') ∧ Meet (pre ++ [s]) suf := by
      cases N with
      | nil => exact hL.elim
      | cons n r =>
        cases r with
        | nil =>
          cases suf with
          | cons _ _ => exact hL.elim
          | nil => exact ⟨n, [], rfl, hL.1, hL.2.1, trivial, ⟨0, trivial⟩, .inr ⟨pre, s, rfl, hL.2.2⟩⟩
        | cons m r =>
          obtain ⟨q1, q2, q3, q4⟩ := hL
          refine ⟨n, m :: r, rfl, q1, q2, q4, ⟨_, hu.2.2⟩, .inr ⟨pre, s, rfl, ?_⟩⟩
          cases suf with
          | nil => cases r <;> exact q4.elim
          | cons s2 suf =>
            have e2 : s2.2.2.2.1 = wc bs m := by
              cases r with
              | nil => cases suf with
                | nil => exact q4.2.1
                | cons _ _ => exact q4.elim
              | cons _ _ => exact q4.2.1
            obtain ⟨u1, u2, u3⟩ := up_two hu
            show s.2.2.2.1 ≤ s2.2.2.2.1 ∧ s.2.2.2.2 = (s2.2.2.2.1 != s.2.2.2.1)
            rw [e2, q2, q3]
            exact ⟨wc_mono (by omega) bs, rfl⟩
    obtain ⟨lo', hu'⟩ := hu'
    have hwb := wc_bd n bs
    have hrow := ix_row hR n
    have hrl := hs _ (row_mem hR n)
    have ih := fun e h0 h1 he => Ends_l19 hb hw hws W suf (pre ++ [s]) N' lo' e (nst bs R n) hL' hu' hm' (by rw [nst_len]; exact hR) (by
      rw [List.length_append, List.length_singleton]; exact nst_small hR hs n) h0 h1 (by rw [← app_at]; exact hl) (by rw [← hf, List.foldl_cons]) he
    have hfin : ifB s.2.2.2.2
        (ancepslaw15_SyllableEnds.l19 W (IntKind.i64.wrap (e + 1)) ((pre ++ s :: suf).length : Nat) (IntKind.i64.wrap (((pre.length : Nat) : Int) + 1)) (pre ++ s :: suf) words (nst bs R n))
        (ancepslaw15_SyllableEnds.l19 W e ((pre ++ s :: suf).length : Nat) (IntKind.i64.wrap (((pre.length : Nat) : Int) + 1)) (pre ++ s :: suf) words (nst bs R n)) = some (true, ()) := by
      rw [w_pre pre s (by omega), w64 (n := e + 1) (by omega), app_at pre s suf]
      simp only [ends] at he
      have hlen : ((pre ++ [s]).length : Nat) = pre.length + 1 := by simp
      cases hse : s.2.2.2.2
      · rw [hse] at he; simp only [cond_false] at he
        rw [ifB_false]; exact ih e h0 (by omega) (by omega)
      · rw [hse] at he; simp only [cond_true] at he
        rw [ifB_true]; exact ih (e + 1) (by omega) (by omega) (by omega)
    rw [ancepslaw15_SyllableEnds.l19_eq, ifB_of _ _ (lt_at pre s suf), ixAt_at]
    simp only [bindD_some]
    rw [hwd, ifB_not _ _ (decide_eq_false (by omega)), ifB_not _ _ (decide_eq_false (by omega)), hrow]
    simp only [bindD_some]
    rw [grow_one _ (by omega)]
    simp only [bindD_some, decide_true, ifB_true]
    rw [hn]
    rcases hm with rfl | ⟨p, y, rfl, hy1, hy2⟩
    · rw [ifB_not _ _ (by simp), ifB_not _ _ (by simp)]
      exact hfin
    · rw [prevG (p := p) (last := y) (suf := s :: suf) hl]
      simp only [bindD_some]
      rw [hwd] at hy1 hy2
      have hpos : decide ((((p ++ [y]).length : Nat) : Int) > 0) = true := decide_eq_true (by simp only [List.length_append, List.length_singleton]; omega)
      rw [hpos, ifB_true, ifB_true, ifB_not _ _ (decide_eq_false (by omega)), ifB_not _ _ (by rw [hy2]; simp)]
      exact hfin
theorem vL_zero : ∀ l : List Snd, (∀ x ∈ l, sval x.1 x.2.1 x.2.2 = 0) → vL 0 l = 0
  | [], _ => rfl
  | x :: l, h => by simp only [vL, h x (by simp)]; exact vL_zero l fun y hy => h y (by simp [hy])
theorem ends_law {s d : List Int} (hsb : ∀ b ∈ s, 0 ≤ b ∧ b < 256) (hdb : ∀ b ∈ d, 0 ≤ b ∧ b < 256) : ancepslaw15_SyllableEnds.f s d = some (true, ()) := by
  rw [ancepslaw15_SyllableEnds.f_eq, awake_f]
  simp only [bindD_some, Bool.not_true, ifB_false]
  cases h1 : decide (((s.length : Nat) : Int) > 60)
  · cases h2 : decide (((d.length : Nat) : Int) > 20)
    · have h1 := of_decide_eq_false h1; have h2 := of_decide_eq_false h2
      obtain ⟨xs, bs, hm, hl, ht, ha, hb, hbl⟩ := Made15_f (s := s) (d := d) (by omega) (by omega) hsb hdb
      rw [hm]
      simp only [bindD_some, ifB_false]
      rw [Divide_f (by omega) (by omega)]
      simp only [bindD_some]
      cases hd : ((dv xs bs).2 != 0)
      · have hd0 : (dv xs bs).2 = 0 := by simpa using hd
        have hv := dv_valid hd0
        rw [ifB_false, NucW_f (by omega) (by omega)]
        have hnw : nw xs bs = (rows bs (nucL xs 0), 0) := by unfold nw; rw [hv]; rfl
        have hrl : (rows bs (nucL xs 0)).length = bs.length + 1 := by unfold rows; rw [fold_len, List.length_replicate]
        have hsm := (nw_small (xs := xs) (bs := bs) (by omega) (by omega)).2
        rw [hnw] at hsm
        simp only at hsm
        simp only [bindD_some, hnw]
        rw [ifB_not _ _ (by rfl), hrl, w64_succ (by omega), ifB_not _ _ (by simp), mkLen_ok (by omega), bindD_some]
        have hnl := nuc_len xs 0
        cases hN : nucL xs 0 with
        | nil =>
          unfold dv at hd0
          rw [hv, hN] at hd0
          cases hd0
        | cons n r =>
          have hdl : (dv xs bs).1 = (divL xs bs 0 (n :: r)).1 ∧ (divL xs bs 0 (n :: r)).2 = 0 := by
            unfold dv at hd0 ⊢
            rw [hv, hN] at hd0 ⊢
            simp only [bne_self_eq_false, cond_false] at hd0 ⊢
            rw [hd0]; exact ⟨rfl, rfl⟩
          rw [hdl.1]
          have hlk := divL_lk xs bs (n :: r) 0 hdl.2
          have hlen := divL_ok_len xs bs (n :: r) 0 hdl.2
          generalize (divL xs bs 0 (n :: r)).1 = L at hlk hlen ⊢
          have hu := nuc_up xs 0
          rw [Nat.zero_add, hN] at hu
          rw [hN] at hnl hrl hsm
          have := Ends_l13 L (List.replicate (bs.length + 1) []) 0 (rows bs (n :: r)) [] 0 (by rw [List.nil_append]; omega) (by omega) (by simp)
          rw [List.nil_append, List.length_nil, Int.ofNat_zero, hrl] at this
          rw [this]
          have hz : ∀ w : Int, rowAt (List.replicate (bs.length + 1) []) w = [] := by
            intro w
            unfold rowAt ixAt
            split
            · rw [List.getElem?_replicate]; split <;> rfl
            · rfl
          have hff := full_fold (n :: r) L (List.replicate (bs.length + 1) []) n r _ _ rfl hlk hu (by simp) (fun j _ _ => hz _)
          rw [hz, if_pos rfl, full_rep] at hff
          have := Ends_l19 (bs := bs) (by omega) hrl hsm (0 + (full (rows bs (n :: r)) : Nat)) L [] (n :: r) 0 0 (List.replicate (bs.length + 1) []) hlk hu (.inl rfl) (by simp) (rep_small _ _) (by omega) (by simp) (by rw [List.nil_append, hlen]; omega) rfl (by
            have : rows bs (n :: r) = (n :: r).foldl (nst bs) (List.replicate (bs.length + 1) []) := rfl
            rw [this]; omega)
          rw [List.nil_append, List.length_nil, Int.ofNat_zero] at this
          exact this
      · rw [ifB_true]
    · rfl
  · rfl
end Go.Proofs.C15
