/- Automata with choices: closures and steps, as both texts compute them. -/
import Derived.Test.YtmbloefhgkhoaaaP07b
set_option linter.unusedVariables false
set_option linter.unusedSimpArgs false
namespace Go.Proofs.C07
open Go Go.Proofs.R
open M (lt_at lt_end w_at app_at)
set_option linter.unusedVariables false
set_option linter.unusedSimpArgs false
set_option maxRecDepth 100000

section
variable {L : Int} {n : Nat} {St : List Int} {E : List Ed} {Ac : List Int}

theorem EdIn.two (hE : EdIn n E) : ∀ x ∈ E, (0 ≤ x.1 ∧ x.1 < (n : Int)) ∧ (0 ≤ x.2.2 ∧ x.2.2 < (n : Int)) := fun x hx => ⟨(hE x hx).1, (hE x hx).2.1⟩

/-! the walk with a list of states to do -/
structure Inv (n : Nat) (E : List Ed) (X : Int → Prop) (B : LB) (T : List Int) (Z : Ed → Prop) : Prop where
  len : B.length = n
  snd : ∀ s : Int, 0 ≤ s ∧ s < (n : Int) → bat B s = true → Rch E X s
  base : ∀ s, X s → bat B s = true
  todo : ∀ s ∈ T, (0 ≤ s ∧ s < (n : Int)) ∧ bat B s = true
  cl : ∀ x ∈ E, x.2.1 < 0 → bat B x.1 = true → x.1 ∈ T ∨ bat B x.2.2 = true ∨ Z x

theorem clone_f {l : List Int} (h : l.length ≤ 4294967296) : slices_Clone_int_int.f l = some (l, ()) := by rw [slices_Clone_int_int.f_eq, grow_ok h]; rfl
/-! the reference's: passes over all edges -/
theorem rclo_l10 (hE : EdIn n E) {X : Int → Prop} : ∀ (suf pre : List Ed) (B : LB) (more : Bool), pre ++ suf = E → E.length < 1000000 → Inv n E X B [] (fun _ => True) →
    ∃ B' m', ancepsref07_closed.l10 more (pre.length : Nat) L (n : Int) St E Ac B = ancepsref07_closed.l7 m' L (n : Int) St E Ac B' ∧ Inv n E X B' [] (fun _ => True) ∧
      ((m' = true ∧ (more = true ∨ falses B' < falses B) ∧ falses B' ≤ falses B) ∨ (m' = false ∧ more = false ∧ B' = B ∧ ∀ x ∈ suf, x.2.1 < 0 → bat B x.1 = true → bat B x.2.2 = true))
  | [], pre, B, more, hq, hl, hi => by
    have he : pre = E := by rw [← hq]; simp
    subst he
    refine ⟨B, more, ?_, hi, ?_⟩
    · have := lt_end pre
      rw [List.append_nil] at this
      rw [ancepsref07_closed.l10_eq, ifB_not _ _ this]
    · cases more
      · exact .inr ⟨rfl, rfl, rfl, fun x h => by cases h⟩
      · exact .inl ⟨rfl, .inl rfl, Nat.le_refl _⟩
  | x :: suf, pre, B, more, hq, hl, hi => by
    have hpl : pre.length < 1000000 := by rw [← hq] at hl; simp only [List.length_append] at hl; omega
    have hxE : x ∈ E := by rw [← hq]; simp
    have hx := hE x hxE
    have ih := fun B more => rclo_l10 hE (X := X) suf (pre ++ [x]) B more (by rw [← app_at]; exact hq) hl
    have hlt := lt_at pre x suf
    have hix := ixAt_at pre x suf
    rw [hq] at hlt hix
    rw [ancepsref07_closed.l10_eq, ifB_of _ _ hlt, hix, bindD_some, w_pre pre x (by omega)]
    have keep : (x.2.1 < 0 → bat B x.1 = true → bat B x.2.2 = true) →
        ∃ B' m', ancepsref07_closed.l10 more ((pre ++ [x]).length : Nat) L (n : Int) St E Ac B = ancepsref07_closed.l7 m' L (n : Int) St E Ac B' ∧ Inv n E X B' [] (fun _ => True) ∧
          ((m' = true ∧ (more = true ∨ falses B' < falses B) ∧ falses B' ≤ falses B) ∨ (m' = false ∧ more = false ∧ B' = B ∧ ∀ x' ∈ x :: suf, x'.2.1 < 0 → bat B x'.1 = true → bat B x'.2.2 = true)) := by
      intro hk
      obtain ⟨B', m', h1, h2, h3⟩ := ih B more hi
      refine ⟨B', m', h1, h2, h3.imp id ?_⟩
      rintro ⟨a, b, c, d⟩
      refine ⟨a, b, c, fun y hy => ?_⟩
      rcases List.mem_cons.1 hy with rfl | hy
      · exact hk
      · exact d y hy
    by_cases h1 : x.2.1 = -1
    · rw [ifB_of _ _ (by rw [h1]; rfl), ix_bat hi.len hx.1]
      simp only [bindD_some]
      cases hb1 : bat B x.1
      · rw [ifB_false]; exact keep fun _ h => by rw [hb1] at h; cases h
      · rw [ifB_true, ix_bat hi.len hx.2.1]
        simp only [bindD_some]
        cases hb : bat B x.2.2
        · simp only [Bool.not_false, ifB_true]
          have hfs := falses_set hi.len hx.2.1 hb
          have hsx : Rch E X x.2.2 := .step hxE (by omega) (hi.snd _ hx.1 hb1)
          have hi' : Inv n E X (setRow B x.2.2 true) [] (fun _ => True) := by
            refine ⟨by rw [set_len]; exact hi.len, ?_, ?_, ?_, fun _ _ _ _ => .inr (.inr trivial)⟩
            · intro t ht hbt
              rw [bat_set hi.len hx.2.1 ht] at hbt
              by_cases hq : t = x.2.2
              · rw [hq]; exact hsx
              · rw [if_neg hq] at hbt; exact hi.snd t ht hbt
            · intro t ht
              have h0 := hi.base t ht
              have htn : 0 ≤ t ∧ t < (n : Int) := by
                unfold bat at h0
                cases hq : ixAt B t with
                | none => rw [hq] at h0; cases h0
                | some v =>
                  unfold ixAt at hq
                  split at hq
                  · have := (List.getElem?_eq_some_iff.1 hq).1
                    rw [hi.len] at this; omega
                  · cases hq
              rw [bat_set hi.len hx.2.1 htn]; split
              · rfl
              · exact h0
            · intro t ht; cases ht
          obtain ⟨B', m', g1, g2, g3⟩ := ih (setRow B x.2.2 true) true hi'
          refine ⟨B', m', g1, g2, .inl ?_⟩
          rcases g3 with ⟨a, b, c⟩ | ⟨a, b, _⟩
          · exact ⟨a, .inr (by omega), by omega⟩
          · cases b
        · simp only [Bool.not_true, ifB_false]
          exact keep fun _ _ => hb
    · rw [ifB_not _ _ (beq_eq_false_iff_ne.2 h1)]
      exact keep fun h => absurd h (by omega)
theorem rclo_l7 (hn : n < 1000000) (hE : EdIn n E) (hl : E.length < 1000000) {X : Int → Prop} (hX : ∀ i, X i → 0 ≤ i ∧ i < (n : Int)) : ∀ (f : Nat) (B : LB), Inv n E X B [] (fun _ => True) → falses B < f →
    ancepsref07_closed.l7 true L (n : Int) St E Ac B = some (memL (clo n E X) 0, ())
  | 0, B, _, h => absurd h (Nat.not_lt_zero _)
  | f + 1, B, hi, hf => by
    rw [ancepsref07_closed.l7_eq, ifB_true]
    obtain ⟨B', m', h1, h2, h3⟩ := rclo_l10 (L := L) (St := St) (Ac := Ac) hE E [] B false rfl hl hi
    rw [List.length_nil, Int.ofNat_zero] at h1
    rw [h1]
    rcases h3 with ⟨rfl, h4, _⟩ | ⟨rfl, _, rfl, h5⟩
    · rcases h4 with h4 | h4
      · cases h4
      · exact rclo_l7 hn hE hl hX f B' h2 (by omega)
    · rw [ancepsref07_closed.l7_eq, ifB_false, members_f (by rw [h2.len]; exact hn), ← clo_of hE.two hX h2.len h2.snd h2.base h5]
      rfl
theorem rclo_l3 (T0 : List Int) : ∀ (suf pre : List Int), (pre ++ suf).length < 1000000 → pre ++ suf = T0 → (∀ s ∈ suf, 0 ≤ s ∧ s < (n : Int)) →
    ancepsref07_closed.l3 (pre ++ suf) (pre.length : Nat) L (n : Int) St E Ac (flg n fun s => s ∈ pre) = ancepsref07_closed.l7 true L (n : Int) St E Ac (flg n fun s => s ∈ T0)
  | [], pre, h, hq, _ => by
    rw [ancepsref07_closed.l3_eq, ifB_not _ _ (lt_end pre)]
    rw [List.append_nil] at hq; rw [hq]
  | x :: suf, pre, h, hq, hs => by
    have hpl : pre.length < 1000000 := by simp only [List.length_append] at h; omega
    have hx := hs x (by simp)
    have ih := rclo_l3 T0 suf (pre ++ [x]) (by rw [← app_at]; exact h) (by rw [← app_at]; exact hq) (fun s h => hs s (by simp [h]))
    rw [ancepsref07_closed.l3_eq, ifB_of _ _ (lt_at pre x suf), ixAt_at]
    simp only [bindD_some]
    rw [ix_bat (flg_len n _) hx]
    simp only [bindD_some]
    rw [w_pre pre x (by omega), flg_set hx, app_at pre x suf, ← ih]
    congr 1
    exact flg_congr fun s _ => by simp
theorem closed_f (hn : n ≤ 400) (hE : EdIn n E) (hl : E.length < 1000000) {l : List Int} (hs : ∀ s ∈ l, 0 ≤ s ∧ s < (n : Int)) (hll : l.length < 1000000) :
    ancepsref07_closed.f L (n : Int) St E Ac l = some (memL (clo n E (fun s => s ∈ l)) 0, ()) := by
  rw [ancepsref07_closed.f_eq, mkLen_ok (by omega), bindD_some, flg_emp]
  have h1 := rclo_l3 (L := L) (n := n) (St := St) (E := E) (Ac := Ac) l l [] (by rw [List.nil_append]; omega) rfl hs
  rw [List.nil_append, List.length_nil, Int.ofNat_zero] at h1
  have e : (flg n fun _ => False) = flg n fun s => s ∈ ([] : List Int) := flg_congr fun s _ => by simp
  rw [e]
  refine h1.trans (rclo_l7 (by omega) hE hl (X := fun s => s ∈ l) hs (n + 1) _ ⟨flg_len _ _, ?_, ?_, ?_, fun _ _ _ _ => .inr (.inr trivial)⟩ ?_)
  · intro s h hb; exact .base ((flg_bat h).1 hb)
  · intro s h; exact (flg_bat (hs s h)).2 h
  · intro s h; cases h
  · have := falses_le (flg n fun s => s ∈ l); rw [flg_len] at this; omega

/-! a letter's step -/
def tgt (E : List Ed) (B : LB) (c : Int) (t : Int) : Prop := ∃ x ∈ E, x.2.1 = c ∧ bat B x.1 = true ∧ x.2.2 = t
noncomputable def nxB (n : Nat) (E : List Ed) (B : LB) (c : Int) : LB := clo n E (tgt E B c)
theorem nxB_len (B : LB) (c : Int) : (nxB n E B c).length = n := clo_len _ _ _
/-! the reference's -/
theorem rnext_l8 (c : Int) (l : List Int) (hE : EdIn n E) (hn : n ≤ 400) (hl : E.length < 1000000) : ∀ (suf pre : List Ed), pre ++ suf = E →
    ancepsref07_next.l8 c (pre.length : Nat) L (n : Int) St E Ac (flg n fun s => s ∈ l) (flg n fun t => ∃ x ∈ pre, x.2.1 = c ∧ x.1 ∈ l ∧ x.2.2 = t) =
      some (memL (clo n E fun t => ∃ x ∈ E, x.2.1 = c ∧ x.1 ∈ l ∧ x.2.2 = t) 0, ())
  | [], pre, hq => by
    have he : pre = E := by rw [← hq]; simp
    subst he
    have := lt_end pre
    rw [List.append_nil] at this
    rw [ancepsref07_next.l8_eq, ifB_not _ _ this, members_f (by rw [flg_len]; omega), bindD_some]
    have hms : ∀ s, s ∈ memL (flg n fun t => ∃ x ∈ pre, x.2.1 = c ∧ x.1 ∈ l ∧ x.2.2 = t) 0 ↔ ∃ x ∈ pre, x.2.1 = c ∧ x.1 ∈ l ∧ x.2.2 = s := by
      intro s
      rw [mem_bat (flg_len _ _)]
      constructor
      · rintro ⟨h1, h2⟩; exact (flg_bat h1).1 h2
      · rintro ⟨x, h1, h2⟩
        have hr : 0 ≤ s ∧ s < (n : Int) := by rw [← h2.2.2]; exact (hE x h1).2.1
        exact ⟨hr, (flg_bat hr).2 ⟨x, h1, h2⟩⟩
    have hml := mem_len (flg n fun t => ∃ x ∈ pre, x.2.1 = c ∧ x.1 ∈ l ∧ x.2.2 = t) 0
    rw [flg_len] at hml
    simp only
    rw [closed_f hn hE hl (fun s hs => by
      obtain ⟨x, h1, h2⟩ := (hms s).1 hs
      rw [← h2.2.2]; exact (hE x h1).2.1) (by omega), bindD_some, clo_congr hms]
  | x :: suf, pre, hq => by
    have hpl : pre.length < 1000000 := by rw [← hq] at hl; simp only [List.length_append] at hl; omega
    have hxE : x ∈ E := by rw [← hq]; simp
    have hx := hE x hxE
    have hlt := lt_at pre x suf
    have hix := ixAt_at pre x suf
    rw [hq] at hlt hix
    have ih := rnext_l8 c l hE hn hl suf (pre ++ [x]) (by rw [← app_at]; exact hq)
    rw [ancepsref07_next.l8_eq, ifB_of _ _ hlt, hix, bindD_some, w_pre pre x (by omega)]
    have keep : ¬ (x.2.1 = c ∧ x.1 ∈ l) → (flg n fun t => ∃ y ∈ pre ++ [x], y.2.1 = c ∧ y.1 ∈ l ∧ y.2.2 = t) = flg n fun t => ∃ y ∈ pre, y.2.1 = c ∧ y.1 ∈ l ∧ y.2.2 = t := by
      intro hk
      refine flg_congr fun t _ => ⟨?_, ?_⟩
      · rintro ⟨y, h1, h2, h3, h4⟩
        rcases List.mem_append.1 h1 with h1 | h1
        · exact ⟨y, h1, h2, h3, h4⟩
        · have : y = x := by simpa using h1
          subst this; exact absurd ⟨h2, h3⟩ hk
      · rintro ⟨y, h1, h2⟩; exact ⟨y, by simp [h1], h2⟩
    by_cases h1 : x.2.1 = c
    · rw [ifB_of _ _ (by rw [h1]; simp), ix_bat (flg_len _ _) hx.1]
      simp only [bindD_some]
      cases hb : bat (flg n fun s => s ∈ l) x.1
      · rw [ifB_false, ← keep (by
          rintro ⟨_, h2⟩
          rw [(flg_bat hx.1).2 h2] at hb; cases hb)]
        exact ih
      · have h2 := (flg_bat hx.1).1 hb
        rw [ifB_true, ix_bat (flg_len _ _) hx.2.1]
        simp only [bindD_some]
        rw [flg_set hx.2.1]
        refine Eq.trans ?_ ih
        congr 1
        refine flg_congr fun t _ => ⟨?_, ?_⟩
        · rintro (⟨y, h3, h4⟩ | rfl)
          · exact ⟨y, by simp [h3], h4⟩
          · exact ⟨x, by simp, h1, h2, rfl⟩
        · rintro ⟨y, h3, h4, h5, h6⟩
          rcases List.mem_append.1 h3 with h3 | h3
          · exact .inl ⟨y, h3, h4, h5, h6⟩
          · have : y = x := by simpa using h3
            subst this; exact .inr h6.symm
    · rw [ifB_not _ _ (beq_eq_false_iff_ne.2 h1), ← keep (fun h => h1 h.1)]
      exact ih
theorem rnext_l3 (c : Int) (hE : EdIn n E) (hn : n ≤ 400) (hl : E.length < 1000000) (T0 : List Int) : ∀ (suf pre : List Int), (pre ++ suf).length < 1000000 → pre ++ suf = T0 → (∀ s ∈ suf, 0 ≤ s ∧ s < (n : Int)) →
    ancepsref07_next.l3 (pre ++ suf) c (pre.length : Nat) L (n : Int) St E Ac (flg n fun s => s ∈ pre) = some (memL (clo n E fun t => ∃ x ∈ E, x.2.1 = c ∧ x.1 ∈ T0 ∧ x.2.2 = t) 0, ())
  | [], pre, h, hq, _ => by
    rw [ancepsref07_next.l3_eq, ifB_not _ _ (lt_end pre), mkLen_ok (by omega), bindD_some, flg_emp]
    rw [List.append_nil] at hq; subst hq
    have e : (flg n fun _ => False) = flg n fun t => ∃ x ∈ ([] : List Ed), x.2.1 = c ∧ x.1 ∈ pre ∧ x.2.2 = t := flg_congr fun s _ => by simp
    rw [e]
    exact rnext_l8 c pre hE hn hl E [] rfl
  | x :: suf, pre, h, hq, hs => by
    have hpl : pre.length < 1000000 := by simp only [List.length_append] at h; omega
    have hx := hs x (by simp)
    have ih := rnext_l3 c hE hn hl T0 suf (pre ++ [x]) (by rw [← app_at]; exact h) (by rw [← app_at]; exact hq) (fun s h => hs s (by simp [h]))
    rw [ancepsref07_next.l3_eq, ifB_of _ _ (lt_at pre x suf), ixAt_at]
    simp only [bindD_some]
    rw [ix_bat (flg_len n _) hx]
    simp only [bindD_some]
    rw [w_pre pre x (by omega), flg_set hx, app_at pre x suf, ← ih]
    congr 1
    exact flg_congr fun s _ => by simp
theorem rnext_f (hn : n ≤ 400) (hE : EdIn n E) (hl : E.length < 1000000) {B : LB} (hB : B.length = n) (c : Int) : ancepsref07_next.f L (n : Int) St E Ac (memL B 0) c = some (memL (nxB n E B c) 0, ()) := by
  have hml := mem_len B 0
  rw [ancepsref07_next.f_eq, mkLen_ok (by omega), bindD_some, flg_emp]
  have h1 := rnext_l3 (L := L) (St := St) (Ac := Ac) c hE hn hl (memL B 0) (memL B 0) [] (by rw [List.nil_append]; omega) rfl (fun s h => ((mem_bat hB s).1 h).1)
  rw [List.nil_append, List.length_nil, Int.ofNat_zero] at h1
  have e : (flg n fun _ => False) = flg n fun s => s ∈ ([] : List Int) := flg_congr fun s _ => by simp
  rw [e, h1]
  unfold nxB
  rw [clo_congr (Y := tgt E B c) fun t => ?_]
  constructor
  · rintro ⟨x, h1, h2, h3, h4⟩; exact ⟨x, h1, h2, ((mem_bat hB _).1 h3).2, h4⟩
  · rintro ⟨x, h1, h2, h3, h4⟩; exact ⟨x, h1, h2, (mem_bat hB _).2 ⟨(hE x h1).1, h3⟩, h4⟩
end
end Go.Proofs.C07
