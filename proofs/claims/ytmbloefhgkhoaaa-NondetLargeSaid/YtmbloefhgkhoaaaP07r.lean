/- Automata with choices: the law of parts. -/
import Derived.Test.YtmbloefhgkhoaaaP07q
set_option linter.unusedVariables false
set_option linter.unusedSimpArgs false
namespace Go.Proofs.C07
open Go Go.Proofs.R
open M (lt_at lt_end w_at app_at LLI)
set_option linter.unusedVariables false
set_option linter.unusedSectionVars false
set_option linter.unusedSimpArgs false
set_option maxRecDepth 100000

/-! words -/
theorem parts_in {L S : Int} {St : List Int} {E : List Ed} {Ac l : List Int} (h : nok L S St E Ac = true) (hl : l.length < 1000000) (hw : ∀ c ∈ l, 0 ≤ c ∧ c < L) : ancepslaw07_NondetParts_1.f L S St E Ac l = some (nacc S.toNat St E Ac l, ()) := by
  have hN := nv_of h
  have a1 := hN.stl; have a2 := hN.s4; have a3 := hN.acl
  rw [ancepslaw07_NondetParts_1.f_eq, accepts_f _ _ _ _ _ _ (by omega) (by omega) hl, bindD_some, nres_ok h hw]; rfl
theorem rep_snoc {A : List Int → Prop} {u v : List Int} (hu : Rep A u) (hv : A v) : Rep A (u ++ v) := by
  induction hu with
  | nil => have := Rep.app hv (Rep.nil (A := A)); simpa using this
  | app h1 _ ih => rw [List.append_assoc]; exact .app h1 ih
/-- the last part of a word that is made of parts -/
theorem rep_last {A : List Int → Prop} {w : List Int} (h : Rep A w) : w = [] ∨ ∃ u v, w = u ++ v ∧ v ≠ [] ∧ Rep A u ∧ A v := by
  induction h with
  | nil => exact .inl rfl
  | @app u v hu hv ih =>
    rcases ih with rfl | ⟨x, y, rfl, hy, hx, hA⟩
    · rw [List.append_nil]
      by_cases h0 : u = []
      · exact .inl h0
      · exact .inr ⟨[], u, rfl, h0, .nil, hu⟩
    · exact .inr ⟨u ++ x, y, by rw [List.append_assoc], hy, .app hu hx, hA⟩
section
variable (A : List Int → Bool) (w : List Int)
abbrev AP (A : List Int → Bool) : List Int → Prop := fun u => A u = true
/-- a word up to a place is made of parts if it is up to an earlier place, and what stands between is one -/
theorem rep_take {to : Nat} (h0 : 0 < to) (hto : to ≤ w.length) : Rep (AP A) (w.take to) ↔ ∃ f, f < to ∧ Rep (AP A) (w.take f) ∧ A ((w.take to).drop f) = true := by
  constructor
  · intro h
    rcases rep_last h with h1 | ⟨u, v, h1, hv, hu, hA⟩
    · have := congrArg List.length h1
      simp only [List.length_take, List.length_nil] at this
      omega
    · have hl := congrArg List.length h1
      simp only [List.length_take, List.length_append] at hl
      have hvl : 0 < v.length := List.length_pos_iff.2 hv
      have e1 : w.take u.length = u := by
        have : (w.take to).take u.length = u := by rw [h1]; simp
        rw [List.take_take, Nat.min_eq_left (by omega)] at this
        exact this
      refine ⟨u.length, by omega, by rw [e1]; exact hu, ?_⟩
      rw [h1]; simpa using hA
  · rintro ⟨f, hf, h1, h2⟩
    have : w.take to = w.take f ++ (w.take to).drop f := by
      conv => lhs; rw [← List.take_append_drop f (w.take to)]
      rw [List.take_take, Nat.min_eq_left (by omega)]
    rw [this]
    exact rep_snoc h1 h2
end
theorem bool_iff {b c : Bool} (h : b = true ↔ c = true) : b = c := Bool.eq_iff_iff.2 h
open Classical in
/-- which beginnings are made of parts -/
noncomputable def starB (A : List Int → Bool) (w : List Int) (k : Nat) : Bool := decide (Rep (AP A) (w.take k))
open Classical in
noncomputable def divB (A B : List Int → Bool) (w : List Int) (k : Nat) : Bool := decide (∃ t, t < k ∧ A (w.take t) = true ∧ B (w.drop t) = true)
theorem starB_iff {A : List Int → Bool} {w : List Int} {k : Nat} : starB A w k = true ↔ Rep (AP A) (w.take k) := by unfold starB; simp
theorem divB_iff {A B : List Int → Bool} {w : List Int} {k : Nat} : divB A B w k = true ↔ ∃ t, t < k ∧ A (w.take t) = true ∧ B (w.drop t) = true := by unfold divB; simp
/-- the list of stars, with places from 'to' on not told yet -/
noncomputable def starL (A : List Int → Bool) (w : List Int) (to : Nat) (x : Bool) : List Bool := (List.range (w.length + 1)).map fun k => if k < to then starB A w k else if k = to then x else decide (k = 0)
theorem starL_at {A : List Int → Bool} {w : List Int} {to : Nat} {x : Bool} {k : Nat} (hk : k ≤ w.length) : ixAt (starL A w to x) (k : Int) = some (if k < to then starB A w k else if k = to then x else decide (k = 0)) := by
  rw [ixAt_nat]; unfold starL
  rw [List.getElem?_map, List.getElem?_range (by omega)]; rfl
theorem starL_set {A : List Int → Bool} {w : List Int} {to : Nat} {x y : Bool} (hk : to ≤ w.length) : setRow (starL A w to x) (to : Int) y = starL A w to y := by
  unfold setRow starL
  rw [Int.toNat_natCast]
  apply List.ext_getElem?
  intro k
  rw [List.getElem?_set]
  by_cases h : to = k
  · subst h
    rw [if_pos rfl]
    have h1 : to < w.length + 1 := by omega
    simp [h1]
  · rw [if_neg h]
    by_cases h1 : k < w.length + 1
    · rw [List.getElem?_map, List.getElem?_map, List.getElem?_range h1]
      simp only [Option.map_some]
      by_cases h2 : k < to
      · rw [if_pos h2, if_pos h2]
      · rw [if_neg h2, if_neg h2, if_neg (Ne.symm h), if_neg (Ne.symm h)]
    · rw [List.getElem?_eq_none (by simp; omega), List.getElem?_eq_none (by simp; omega)]
theorem starL_next {A : List Int → Bool} {w : List Int} {to : Nat} : starL A w to (starB A w to) = starL A w (to + 1) (decide (to + 1 = 0)) := by
  unfold starL
  refine List.map_congr_left fun k hk => ?_
  by_cases h1 : k < to
  · rw [if_pos h1, if_pos (by omega)]
  · by_cases h2 : k = to
    · subst h2; rw [if_neg h1, if_pos rfl, if_pos (by omega)]
    · rw [if_neg h1, if_neg h2, if_neg (by omega)]
      by_cases h3 : k = to + 1
      · subst h3; rw [if_pos rfl]
      · rw [if_neg h3]
theorem sub_at (w : List Int) {f t : Nat} (h : f ≤ t) (ht : t ≤ w.length) : subL w (f : Int) (t : Int) = some ((w.take t).drop f) := by
  unfold subL
  rw [if_pos ⟨by omega, by omega, by omega⟩]; rfl
section
variable {L Sa Sb Su Sv Ss : Int} {Ta Tb Tu Tv Ts : List Int} {Ea Eb Eu Ev Es : List Ed} {Aa Ab Au Av As : List Int} {w : List Int}
variable (ha : nok L Sa Ta Ea Aa = true) (hb : nok L Sb Tb Eb Ab = true) (hu : nok L Su Tu Eu Au = true) (hv : nok L Sv Tv Ev Av = true) (hs : nok L Ss Ts Es As = true) (hw : ∀ c ∈ w, 0 ≤ c ∧ c < L) (hwl : w.length ≤ 20)
include ha hw hwl
theorem sub_ok {f t : Nat} : ((w.take t).drop f).length < 1000000 ∧ ∀ c ∈ (w.take t).drop f, 0 ≤ c ∧ c < L :=
  ⟨by simp; omega, fun c hc => hw c (List.mem_of_mem_take (List.mem_of_mem_drop hc))⟩
open Classical in
/-- one place: the places ahead of it are tried -/
theorem parts_l20 (D : Bool) (m : Int) {to : Nat} (hto : to ≤ w.length) (h0 : 0 < to) : ∀ (g f : Nat), f + g = to →
    ancepslaw07_NondetParts.l20 w D (to : Nat) m (to : Nat) (to : Nat) (f : Nat) L Sa Ta Ea Aa L Sb Tb Eb Ab L Su Tu Eu Au L Sv Tv Ev Av L Ss Ts Es As (starL (nacc Sa.toNat Ta Ea Aa) w to (decide (∃ t, t < f ∧ Rep (AP (nacc Sa.toNat Ta Ea Aa)) (w.take t) ∧ nacc Sa.toNat Ta Ea Aa ((w.take to).drop t) = true))) =
      ancepslaw07_NondetParts.l16 w D m (IntKind.i64.wrap ((to : Int) + 1)) L Sa Ta Ea Aa L Sb Tb Eb Ab L Su Tu Eu Au L Sv Tv Ev Av L Ss Ts Es As (starL (nacc Sa.toNat Ta Ea Aa) w to (starB (nacc Sa.toNat Ta Ea Aa) w to))
  | 0, f, hf => by
    have : f = to := by omega
    subst this
    rw [ancepslaw07_NondetParts.l20_eq, ifB_not _ _ (decide_eq_false (by omega))]
    congr 2
    refine bool_iff ?_
    rw [starB_iff, rep_take _ w h0 hto]; simp
  | g + 1, f, hf => by
    have ih := parts_l20 D m hto h0 g (f + 1) (by omega)
    have hfl : f < to := by omega
    have e1 := starL_at (A := nacc Sa.toNat Ta Ea Aa) (w := w) (to := to) (x := decide (∃ t, t < f ∧ Rep (AP (nacc Sa.toNat Ta Ea Aa)) (w.take t) ∧ nacc Sa.toNat Ta Ea Aa ((w.take to).drop t) = true)) (k := to) hto
    have e2 := starL_at (A := nacc Sa.toNat Ta Ea Aa) (w := w) (to := to) (x := decide (∃ t, t < f ∧ Rep (AP (nacc Sa.toNat Ta Ea Aa)) (w.take t) ∧ nacc Sa.toNat Ta Ea Aa ((w.take to).drop t) = true)) (k := f) (by omega)
    rw [if_neg (by omega), if_pos rfl] at e1
    rw [if_pos hfl] at e2
    have hstep : ∀ b : Bool, (b = true ↔ ∃ t, t < f + 1 ∧ Rep (AP (nacc Sa.toNat Ta Ea Aa)) (w.take t) ∧ nacc Sa.toNat Ta Ea Aa ((w.take to).drop t) = true) → b = decide (∃ t, t < f + 1 ∧ Rep (AP (nacc Sa.toNat Ta Ea Aa)) (w.take t) ∧ nacc Sa.toNat Ta Ea Aa ((w.take to).drop t) = true) := fun b hb => bool_iff (by rw [hb]; simp)
    rw [ancepslaw07_NondetParts.l20_eq, ifB_of _ _ (decide_eq_true (by omega)), e1, bindD_some, bindD_some]
    by_cases hx : ∃ t, t < f ∧ Rep (AP (nacc Sa.toNat Ta Ea Aa)) (w.take t) ∧ nacc Sa.toNat Ta Ea Aa ((w.take to).drop t) = true
    · rw [ifB_of _ _ (decide_eq_true hx), bindD_some, bindD_some, starL_set hto, w64_succ (n := f) (by omega)]
      rw [← hstep true (by simp only [true_iff]; obtain ⟨t, h1, h2⟩ := hx; exact ⟨t, by omega, h2⟩)] at ih
      exact ih
    · rw [ifB_not _ _ (decide_eq_false hx), e2, bindD_some, bindD_some]
      cases hsb : starB (nacc Sa.toNat Ta Ea Aa) w f with
      | true =>
        obtain ⟨k1, k2⟩ := sub_ok (f := f) (t := to) ha hw hwl
        rw [ifB_true, sub_at w (by omega) hto, bindD_some, parts_in ha k1 k2, bindD_some, bindD_some, bindD_some, starL_set hto, w64_succ (n := f) (by omega)]
        rw [← hstep (nacc Sa.toNat Ta Ea Aa ((w.take to).drop f)) (by
          constructor
          · intro h; exact ⟨f, by omega, starB_iff.1 hsb, h⟩
          · rintro ⟨t, h1, h2, h3⟩
            by_cases ht : t = f
            · subst ht; exact h3
            · exact (hx ⟨t, by omega, h2, h3⟩).elim)] at ih
        exact ih
      | false =>
        rw [ifB_false, bindD_some, bindD_some, starL_set hto, w64_succ (n := f) (by omega)]
        rw [← hstep false (by
          simp only [Bool.false_eq_true, false_iff]
          rintro ⟨t, h1, h2, h3⟩
          by_cases ht : t = f
          · subst ht
            have := starB_iff.2 h2
            rw [hsb] at this; cases this
          · exact hx ⟨t, by omega, h2, h3⟩)] at ih
        exact ih
omit ha hw hwl in
theorem rep_nil {A : List Int → Bool} {w : List Int} : starB A w 0 = true := starB_iff.2 (by rw [List.take_zero]; exact .nil)
theorem parts_place (D : Bool) (m : Int) {k : Nat} (hk : k ≤ w.length) :
    ancepslaw07_NondetParts.l20 w D (k : Nat) m (k : Nat) (k : Nat) 0 L Sa Ta Ea Aa L Sb Tb Eb Ab L Su Tu Eu Au L Sv Tv Ev Av L Ss Ts Es As (starL (nacc Sa.toNat Ta Ea Aa) w k (decide (k = 0))) =
      ancepslaw07_NondetParts.l16 w D m ((k + 1 : Nat) : Int) L Sa Ta Ea Aa L Sb Tb Eb Ab L Su Tu Eu Au L Sv Tv Ev Av L Ss Ts Es As (starL (nacc Sa.toNat Ta Ea Aa) w (k + 1) (decide (k + 1 = 0))) := by
  rw [← starL_next]
  rcases Nat.eq_zero_or_pos k with h0 | h0
  · subst h0
    rw [ancepslaw07_NondetParts.l20_eq, ifB_not _ _ (by rfl), w64_succ (by omega), rep_nil]; rfl
  · have := parts_l20 (Sb := Sb) (Su := Su) (Sv := Sv) (Ss := Ss) (Tb := Tb) (Tu := Tu) (Tv := Tv) (Ts := Ts) (Eb := Eb) (Eu := Eu) (Ev := Ev) (Es := Es) (Ab := Ab) (Au := Au) (Av := Av) (As := As) ha hw hwl D m hk h0 k 0 (by omega)
    rw [w64_succ (by omega), Int.ofNat_zero] at this
    rw [← this]
    congr 2
    refine bool_iff ?_
    simp; omega
include hb
theorem parts_l16 (R : Option (Bool × Unit)) (hend : ancepslaw07_NondetParts.l16 w (divB (nacc Sa.toNat Ta Ea Aa) (nacc Sb.toNat Tb Eb Ab) w (w.length + 1)) ((w.length + 1 : Nat) : Int) ((w.length + 1 : Nat) : Int) L Sa Ta Ea Aa L Sb Tb Eb Ab L Su Tu Eu Au L Sv Tv Ev Av L Ss Ts Es As (starL (nacc Sa.toNat Ta Ea Aa) w (w.length + 1) false) = R) : ∀ (g k : Nat), k + g = w.length + 1 →
    ancepslaw07_NondetParts.l16 w (divB (nacc Sa.toNat Ta Ea Aa) (nacc Sb.toNat Tb Eb Ab) w k) ((w.length + 1 : Nat) : Int) (k : Nat) L Sa Ta Ea Aa L Sb Tb Eb Ab L Su Tu Eu Au L Sv Tv Ev Av L Ss Ts Es As (starL (nacc Sa.toNat Ta Ea Aa) w k (decide (k = 0))) = R
  | 0, k, hk => by
    have : k = w.length + 1 := by omega
    subst this
    rw [decide_eq_false (by omega)]; exact hend
  | g + 1, k, hk => by
    have ih := parts_l16 R hend g (k + 1) (by omega)
    have hkl : k ≤ w.length := by omega
    have hpl : ∀ D, divB (nacc Sa.toNat Ta Ea Aa) (nacc Sb.toNat Tb Eb Ab) w (k + 1) = D → ancepslaw07_NondetParts.l20 w D (k : Nat) ((w.length + 1 : Nat) : Int) (k : Nat) (k : Nat) 0 L Sa Ta Ea Aa L Sb Tb Eb Ab L Su Tu Eu Au L Sv Tv Ev Av L Ss Ts Es As (starL (nacc Sa.toNat Ta Ea Aa) w k (decide (k = 0))) = R := by
      rintro D rfl
      rw [parts_place ha hw hwl _ _ hkl]; exact ih
    rw [ancepslaw07_NondetParts.l16_eq, ifB_of _ _ (decide_eq_true (by omega))]
    cases hd : divB (nacc Sa.toNat Ta Ea Aa) (nacc Sb.toNat Tb Eb Ab) w k with
    | true =>
      rw [ifB_true]
      refine hpl true (divB_iff.2 ?_)
      obtain ⟨t, h1, h2⟩ := divB_iff.1 hd
      exact ⟨t, by omega, h2⟩
    | false =>
      obtain ⟨k1, k2⟩ := sub_ok (f := 0) (t := k) ha hw hwl
      rw [List.drop_zero] at k1 k2
      have hs0 := sub_at w (Nat.zero_le k) hkl
      rw [List.drop_zero, Int.ofNat_zero] at hs0
      have hs1 := sub_at w hkl (Nat.le_refl _)
      rw [List.take_length] at hs1
      obtain ⟨k3, k4⟩ := sub_ok (f := k) (t := w.length) ha hw hwl
      rw [List.take_length] at k3 k4
      have hno : ∀ t, t < k → nacc Sa.toNat Ta Ea Aa (w.take t) = true → nacc Sb.toNat Tb Eb Ab (w.drop t) = true → False := fun t h1 h2 h3 => by
        have := divB_iff.2 ⟨t, h1, h2, h3⟩
        rw [hd] at this; cases this
      rw [ifB_false, hs0, bindD_some, parts_in ha k1 k2, bindD_some]
      cases hA : nacc Sa.toNat Ta Ea Aa (w.take k) with
      | true =>
        rw [ifB_true, hs1, bindD_some, parts_in hb k3 k4, bindD_some]
        refine hpl _ (bool_iff ?_)
        rw [divB_iff]
        constructor
        · rintro ⟨t, h1, h2, h3⟩
          by_cases ht : t = k
          · subst ht; exact h3
          · exact (hno t (by omega) h2 h3).elim
        · intro h; exact ⟨k, by omega, hA, h⟩
      | false =>
        rw [ifB_false]
        refine hpl _ (bool_iff ?_)
        rw [divB_iff]
        constructor
        · rintro ⟨t, h1, h2, h3⟩
          by_cases ht : t = k
          · subst ht; rw [hA] at h2; cases h2
          · exact (hno t (by omega) h2 h3).elim
        · intro h; cases h
end
theorem acc_parts {na : Nat} {E : List Ed} (hE : EdIn na E) {St Ac : List Int} (hA : ∀ s ∈ Ac, 0 ≤ s ∧ s < (na : Int)) : (AP (nacc na St E Ac)) = Acc St E Ac := by
  funext w
  exact propext (nacc_way hE hA w)
theorem acc_srt {St Ac : List Int} {r E : List Ed} (hr : Srt r E) (w : List Int) : Acc St r Ac w ↔ Acc St E Ac w := by
  constructor
  · rintro ⟨s, hs, t, ht, h⟩; exact ⟨s, hs, t, ht, h.mono fun x hx => (hr.mem x).1 hx⟩
  · rintro ⟨s, hs, t, ht, h⟩; exact ⟨s, hs, t, ht, h.mono fun x hx => (hr.mem x).2 hx⟩
theorem parts_law (p0 p1 p2 p3 : Int) (p4 : List (List Int)) (q0 q1 q2 q3 : Int) (q4 : List (List Int)) (b : List Int) (h0 : 0 ≤ p0 ∧ p0 < 256) (h1 : 0 ≤ p1 ∧ p1 < 256) (h4 : ∀ x ∈ p4, B3 x) (g1 : 0 ≤ q1 ∧ q1 < 256) (g4 : ∀ x ∈ q4, B3 x) (hwb : ∀ x ∈ b, 0 ≤ x ∧ x < 256) :
    ancepslaw07_NondetParts.f p0 p1 p2 p3 p4 q0 q1 q2 q3 q4 b = some (true, ()) := by
  rw [ancepslaw07_NondetParts.f_eq, awake_f]
  simp only [bindD_some, Bool.not_true, ifB_false]
  by_cases hl : ((b.length : Nat) : Int) > 20
  · rw [ifB_of _ _ (decide_eq_true hl)]
  · rw [ifB_not _ _ (decide_eq_false hl)]
    obtain ⟨Sa, Ta, Ea, Aa, m1, ha, m2, m3, m4, m5, m6⟩ := made_f p0 p1 p2 p3 p4 h0 h1 h4
    obtain ⟨Sb, Tb, Eb, Ab, n1, hb, n2, n3, _, _, n6⟩ := made_f p0 q1 q2 q3 q4 h0 g1 g4
    rw [m1, bindD_some, n1, bindD_some]
    simp only
    generalize 1 + Int.tmod p0 4 = L at *
    have hA := nv2_of ha
    have hB := nv2_of hb
    have a1 := hA.stl; have a2 := hA.acl; have b1 := hB.stl; have b2 := hB.acl
    have htwo : two L Sa Ta Ea Aa L Sb Tb Eb Ab = true := two_iff.2 ⟨ha, hb, rfl⟩
    have l1 : (shE Sa Eb).length = Eb.length := by simp [shE]
    have l2 : (joE Aa Sa Tb).length ≤ 36 := by rw [joE_len]; exact Nat.le_trans (Nat.mul_le_mul (by omega : Aa.length ≤ 6) (by omega : Tb.length ≤ 6)) (by omega)
    have l3 : (stE Sa Ta Aa).length = Ta.length + Aa.length := by simp [stE]
    rcases union_f (L := L) (Sa := Sa) (Ta := Ta) (Ea := Ea) (Aa := Aa) (L' := L) (Sb := Sb) (Tb := Tb) (Eb := Eb) (Ab := Ab) (by omega) (by omega) (by omega) (by omega) with ⟨h, _⟩ | ⟨_, h, _⟩ | ⟨_, _, hu, eu, _⟩
    · rw [htwo] at h; cases h
    · simp only [List.length_append] at h; omega
    rcases concat_f (L := L) (Sa := Sa) (Ta := Ta) (Ea := Ea) (Aa := Aa) (L' := L) (Sb := Sb) (Tb := Tb) (Eb := Eb) (Ab := Ab) (by omega) (by omega) (by omega) (by omega) with ⟨h, _⟩ | ⟨_, h, _⟩ | ⟨_, _, rv, srv, hv, ev, _⟩
    · rw [htwo] at h; cases h
    · simp only [List.length_append] at h; omega
    rcases star_f (L := L) (S := Sa) (St := Ta) (E := Ea) (Ac := Aa) (by omega) (by omega) with ⟨h, _⟩ | ⟨_, h, _⟩ | ⟨_, _, rs, srs, hs, es, _⟩
    · rw [ha] at h; cases h
    · simp only [List.length_append] at h; omega
    rw [eu, bindD_some, ev, bindD_some, es, bindD_some]
    simp only [unR]
    rw [ifB_not _ _ (by rfl), ifB_not _ _ (by rfl), ifB_not _ _ (by rfl)]
    obtain ⟨w, f1, f2, f3⟩ := word_f (St := Ta) (E := Ea) (Ac := Aa) hA.l1 hA.l8 Sa hwb (by omega)
    have hwl : w.length ≤ 20 := by omega
    rw [f1, bindD_some]
    simp only
    rw [w64_succ (by omega), mkLen_ok (by omega), bindD_some]
    have hstar : setRow (List.replicate (w.length + 1) false) 0 true = starL (nacc Sa.toNat Ta Ea Aa) w 0 (decide (0 = 0)) := by
      unfold starL setRow
      apply List.ext_getElem?
      intro k
      rw [List.getElem?_set, List.getElem?_map]
      by_cases hk : k < w.length + 1
      · rw [List.getElem?_range hk]
        by_cases h0 : k = 0
        · subst h0; simp
        · rw [if_neg (by simp; omega), List.getElem?_replicate, if_pos hk]; simp [h0]
      · rw [List.getElem?_eq_none (by simp; omega : (List.range (w.length + 1)).length ≤ k), if_neg (by simp; omega), List.getElem?_replicate, if_neg hk]; rfl
    have hix : ixAt (List.replicate (w.length + 1) false) 0 = some false := by
      have := ixAt_nat (List.replicate (w.length + 1) false) 0
      rw [Int.ofNat_zero] at this
      rw [this]; simp
    rw [hix, bindD_some, bindD_some, hstar]
    have hw0 : ∀ c ∈ w, 0 ≤ c := fun c hc => (f3 c hc).1
    have eA := acc_parts hA.eiS (St := Ta) hA.acS
    have eB := acc_parts hB.eiS (St := Tb) hB.acS
    have sa : ((Sa.toNat : Nat) : Int) = Sa := by omega
    have sb : ((Sb.toNat : Nat) : Int) = Sb := by omega
    have hU : nacc (Sa + Sb).toNat (Ta ++ shL Sa Tb) (Ea ++ shE Sa Eb) (Aa ++ shL Sa Ab) w = (nacc Sa.toNat Ta Ea Aa w || nacc Sb.toNat Tb Eb Ab w) := by
      refine bool_iff ?_
      have := acc_union hA.eiS hB.eiS hA.stS hA.acS hB.stS hB.acS w
      rw [sa] at this
      rw [nacc_way (nv_of hu).eiS (nv_of hu).acS, Bool.or_eq_true]
      refine this.trans ?_
      rw [nacc_way hA.eiS hA.acS, nacc_way hB.eiS hB.acS]; rfl
    have hV : nacc (Sa + Sb).toNat Ta rv (shL Sa Ab) w = divB (nacc Sa.toNat Ta Ea Aa) (nacc Sb.toNat Tb Eb Ab) w (w.length + 1) := by
      refine bool_iff ?_
      rw [nacc_way (nv_of hv).eiS (nv_of hv).acS, divB_iff]
      refine (acc_srt srv w).trans ?_
      have := acc_concat hA.eiS hB.eiS hA.stS hA.acS hB.stS hB.acS w hw0
      rw [sa] at this
      rw [this]
      constructor
      · rintro ⟨u, v, rfl, h1, h2⟩
        refine ⟨u.length, by simp; omega, ?_, ?_⟩
        · rw [nacc_way hA.eiS hA.acS]
          have : Acc Ta Ea Aa _ := h1
          rw [List.take_left']
          · exact h1
          · rfl
        · rw [nacc_way hB.eiS hB.acS]
          rw [List.drop_left']
          · exact h2
          · rfl
      · rintro ⟨t, _, h1, h2⟩
        rw [nacc_way hA.eiS hA.acS] at h1
        rw [nacc_way hB.eiS hB.acS] at h2
        exact ⟨w.take t, w.drop t, (List.take_append_drop t w).symm, h1, h2⟩
    have hS : nacc (Sa + 1).toNat [Sa] rs [Sa] w = starB (nacc Sa.toNat Ta Ea Aa) w w.length := by
      refine bool_iff ?_
      rw [nacc_way (nv_of hs).eiS (nv_of hs).acS, starB_iff, List.take_length, eA]
      refine (acc_srt srs w).trans ?_
      have := acc_star hA.eiS hA.stS hA.acS w hw0
      rw [sa] at this
      exact this
    have hwlt : w.length < 1000000 := by omega
    have key := parts_l16 (L := L) (Sa := Sa) (Sb := Sb) (Su := Sa + Sb) (Sv := Sa + Sb) (Ss := Sa + 1) (Ta := Ta) (Tb := Tb) (Tu := Ta ++ shL Sa Tb) (Tv := Ta) (Ts := [Sa]) (Ea := Ea) (Eb := Eb) (Eu := Ea ++ shE Sa Eb) (Ev := rv) (Es := rs) (Aa := Aa) (Ab := Ab) (Au := Aa ++ shL Sa Ab) (Av := shL Sa Ab) (As := [Sa]) ha hb f3 hwl (some (true, ())) ?_ (w.length + 1) 0 (by omega)
    · have hd0 : divB (nacc Sa.toNat Ta Ea Aa) (nacc Sb.toNat Tb Eb Ab) w 0 = false := by
        cases h : divB (nacc Sa.toNat Ta Ea Aa) (nacc Sb.toNat Tb Eb Ab) w 0 with
        | false => rfl
        | true => obtain ⟨t, h1, _⟩ := divB_iff.1 h; omega
      rw [hd0, Int.ofNat_zero] at key
      exact key
    · have hix2 : ixAt (starL (nacc Sa.toNat Ta Ea Aa) w (w.length + 1) false) ((w.length : Nat) : Int) = some (starB (nacc Sa.toNat Ta Ea Aa) w w.length) := by
        rw [starL_at (Nat.le_refl _), if_pos (by omega)]
      rw [ancepslaw07_NondetParts.l16_eq, ifB_not _ _ (decide_eq_false (by omega)), parts_in hu hwlt f3, bindD_some, parts_in ha hwlt f3, bindD_some, parts_in hb hwlt f3, parts_in hv hwlt f3, parts_in hs hwlt f3, hix2, hU, hV, hS]
      cases nacc Sa.toNat Ta Ea Aa w <;> simp [ifB, bindD_some]
end Go.Proofs.C07
