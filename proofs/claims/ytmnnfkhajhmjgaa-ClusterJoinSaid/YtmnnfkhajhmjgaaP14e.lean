/- Plain words for the chapter of clusters: order, and the clusters of descriptions. -/
import Derived.Test.YtmnnfkhajhmjgaaP14d
set_option linter.unusedVariables false
set_option linter.unusedSimpArgs false
namespace Go.Proofs.C14
open Go Go.Proofs.R
set_option maxRecDepth 100000

theorem order_law (xs : List Snd) (bs : List Int) (ys : List Snd) (cs : List Int) (zs : List Snd) (ds : List Int) : ancepslaw14_ClusterOrder.f xs bs ys cs zs ds = some (true, ()) := by
  rw [ancepslaw14_ClusterOrder.f_eq, awake_f]
  obtain ⟨b1, e1, s1⟩ := Few_f xs bs
  obtain ⟨b2, e2, s2⟩ := Few_f ys cs
  obtain ⟨b3, e3, s3⟩ := Few_f zs ds
  rw [e1, e2, e3]
  cases b1
  · rfl
  cases b2
  · rfl
  cases b3
  · rfl
  have s1 := s1 rfl; have s2 := s2 rfl; have s3 := s3 rfl
  simp only [bindD_some, copied_f s1, copied_f s2, Bool.not_true, ifB_false]
  rw [Compare_f (xs := xs) (ys := ys) (by omega) (by omega) (by omega) (by omega), Compare_f (xs := ys) (ys := zs) (by omega) (by omega) (by omega) (by omega),
    Compare_f (xs := xs) (ys := zs) (by omega) (by omega) (by omega) (by omega), refCompare_f (xs := xs) (ys := ys) (by omega) (by omega) (by omega) (by omega),
    Compare_f (xs := ys) (ys := xs) (by omega) (by omega) (by omega) (by omega), Compare_f (xs := xs) (ys := xs) (by omega) (by omega) (by omega) (by omega)]
  simp only [bindD_some, beq_self_eq_true, ifB_true, ordC_self]
  have g := ordC_good
  have hbd := g.bd (xs, bs) (ys, cs)
  have hanti := g.anti (xs, bs) (ys, cs)
  have htr := g.trans (xs, bs) (ys, cs) (zs, ds)
  have heq := g.eq (xs, bs) (ys, cs) (zs, ds)
  generalize ordC (xs, bs) (ys, cs) = x at *
  generalize ordC (ys, cs) (zs, ds) = y at *
  generalize ordC (xs, bs) (zs, ds) = z at *
  rw [hanti, w64 (by omega)]
  have : (-x == 0 - x) = true := by rw [beq_iff_eq]; omega
  rw [this, ifB_true]
  by_cases h0 : x = 0
  · have hz := heq h0
    subst h0; subst hz
    have h1 : decide ((0 : Int) > 0) = false := by decide
    rw [h1]
    by_cases hy : y > 0
    · rw [decide_eq_true hy]; simp [ifB]
    · rw [decide_eq_false hy, decide_eq_true (by omega : y ≤ 0)]; simp [ifB]
  · have hx : (x != 0) = true := by simpa using h0
    rw [hx]
    by_cases h1 : x > 0
    · rw [decide_eq_true h1]; rfl
    · rw [decide_eq_false h1]
      by_cases h2 : y > 0
      · rw [decide_eq_true h2]; rfl
      · rw [decide_eq_false h2, decide_eq_true (htr (by omega) (by omega))]; rfl

theorem fits_u8 {n : Int} (h : (Lit.int .u8 n).wf = true) : 0 ≤ n ∧ n < 256 := by
  simp only [Lit.wf, Bool.and_eq_true, decide_eq_true_eq] at h
  have h1 : IntKind.u8.min = 0 := rfl
  have h2 : IntKind.u8.max = 255 := rfl
  omega
/-! clusters of descriptions -/
def tab : List Snd := [((3 : Int), ((0 : Int), (ByteArray.mk (List.toArray ((116 : UInt8) :: ([] : (List UInt8))))))), ((4 : Int), ((0 : Int), (ByteArray.mk (List.toArray ((114 : UInt8) :: ([] : (List UInt8))))))), ((9 : Int), ((0 : Int), (ByteArray.mk (List.toArray ((104 : UInt8) :: ([] : (List UInt8))))))), ((5 : Int), ((0 : Int), (ByteArray.mk (List.toArray ((110 : UInt8) :: ([] : (List UInt8))))))), ((6 : Int), ((0 : Int), (ByteArray.mk (List.toArray ((115 : UInt8) :: ([] : (List UInt8))))))), ((7 : Int), ((0 : Int), (ByteArray.mk (List.toArray ((120 : UInt8) :: ([] : (List UInt8))))))), ((8 : Int), ((0 : Int), (ByteArray.mk (List.toArray ((118 : UInt8) :: ([] : (List UInt8))))))), ((3 : Int), ((0 : Int), (ByteArray.mk (List.toArray ((112 : UInt8) :: ([] : (List UInt8))))))), ((4 : Int), ((0 : Int), (ByteArray.mk (List.toArray ((108 : UInt8) :: ([] : (List UInt8)))))))]
theorem tab_all : (tab.all fun x => sval x.1 x.2.1 x.2.2 == 0 && !nuc x.1) = true := by kernel_rfl
theorem tab_ok {x : Snd} (h : x ∈ tab) : sval x.1 x.2.1 x.2.2 = 0 ∧ nuc x.1 = false := by
  have := List.all_eq_true.1 tab_all x h
  simpa using this
theorem tab_len : tab.length = 9 := rfl

theorem Made_l4 (u : Int) (xs0 : List Snd) (bs0 bs1 : List Int) : ∀ (suf pre : List Int) (out : List Snd), (pre ++ suf).length ≤ 9223372036854775807 → (∀ b ∈ pre ++ suf, 0 ≤ b ∧ b < 256) → out.length = pre.length → pre.length ≤ 6 → (∀ x ∈ out, x ∈ tab) →
    ∃ xs, xs.length ≤ 6 ∧ (∀ x ∈ xs, x ∈ tab) ∧ ancepsref14_Made.l4 (pre.length : Nat) (pre ++ suf) u tab xs0 bs0 out bs1 = ancepsref14_Made.l8 0 (pre ++ suf) u xs0 bs0 xs bs1
  | [], pre, out, h, hb, ho, h6, hx => ⟨out, by omega, hx, by rw [ancepsref14_Made.l4_eq, ifB_not _ _ (lt_end pre)]⟩
  | b :: suf, pre, out, h, hb, ho, h6, hx => by
    rw [ancepsref14_Made.l4_eq, ifB_of _ _ (lt_at pre b suf)]
    by_cases h7 : ((pre.length : Nat) : Int) < 6
    · have hbb := hb b (by simp)
      have e1 : (((tab.length : Nat) : Int) == 0) = false := rfl
      have hm : Int.tmod b 9 = ((b.toNat % 9 : Nat) : Int) := by
        rw [Int.tmod_eq_emod_of_nonneg hbb.1]; omega
      obtain ⟨y, hy, hyt⟩ : ∃ y, ixAt tab (Int.tmod (IntKind.i64.wrap b) ((tab.length : Nat) : Int)) = some y ∧ y ∈ tab := by
        rw [w64 (by omega)]
        have hlt : b.toNat % 9 < tab.length := by rw [tab_len]; omega
        refine ⟨tab[b.toNat % 9], ?_, List.getElem_mem hlt⟩
        have : ((tab.length : Nat) : Int) = 9 := rfl
        rw [this, hm, ixAt_nat, List.getElem?_eq_getElem hlt]
      obtain ⟨xs, i1, i2, i3⟩ := Made_l4 u xs0 bs0 bs1 suf (pre ++ [b]) (out ++ [y]) (by rw [← app_at]; exact h) (by rw [← app_at]; exact hb) (by simp [ho]) (by simp only [List.length_append, List.length_singleton]; omega)
        (fun x hm => by
          rcases List.mem_append.1 hm with hm | hm
          · exact hx x hm
          · rw [List.mem_singleton.1 hm]; exact hyt)
      refine ⟨xs, i1, i2, ?_⟩
      rw [ifB_of _ _ (decide_eq_true h7), ixAt_at, bindD_some, e1, ifB_false, hy]
      simp only [bindD_some]
      rw [grow_one out (by omega), bindD_some, w_pre pre b (by omega), app_at pre b suf]
      exact i3
    · refine ⟨out, by omega, hx, ?_⟩
      rw [ifB_not _ _ (decide_eq_false h7)]

theorem asc_snoc : ∀ {l : List Int} {a c : Int}, Asc a l → (∀ b ∈ l, b ≤ c) → a ≤ c → Asc a (l ++ [c])
  | [], _, _, _, _, h => ⟨h, trivial⟩
  | b :: l, _, c, h, hb, _ => ⟨h.1, asc_snoc h.2 (fun x hx => hb x (by simp [hx])) (hb b (by simp))⟩

theorem Made_l8 (ds : List Int) (u : Int) (xs0 : List Snd) (bs0 : List Int) (xs : List Snd) (hx : xs.length ≤ 6) : ∀ (n i : Nat) (bs : List Int), i + n = xs.length + 1 → Asc 0 bs → (∀ b ∈ bs, 0 ≤ b ∧ b ≤ i ∧ b ≤ xs.length) → bs.length ≤ 5 + i →
    ∃ cs, Asc 0 cs ∧ (∀ b ∈ cs, 0 ≤ b ∧ b ≤ xs.length) ∧ cs.length ≤ 12 ∧ ancepsref14_Made.l8 (i : Int) ds u xs0 bs0 xs bs = some (xs, (cs, ()))
  | 0, i, bs, hi, ha, hb, hl => ⟨bs, ha, fun b h => ⟨(hb b h).1, (hb b h).2.2⟩, by omega, by rw [ancepsref14_Made.l8_eq, ifB_not _ _ (decide_eq_false (by omega))]⟩
  | n + 1, i, bs, hi, ha, hb, hl => by
    have ih := Made_l8 ds u xs0 bs0 xs hx n (i + 1)
    have hmem : ∀ {l : List Int}, (∀ b ∈ l, 0 ≤ b ∧ b ≤ (i : Int) ∧ b ≤ xs.length) → ∀ b ∈ l ++ [(i : Int)], 0 ≤ b ∧ b ≤ (i : Int) ∧ b ≤ xs.length := by
      intro l h b hb
      rcases List.mem_append.1 hb with hb | hb
      · exact h b hb
      · rw [List.mem_singleton.1 hb]; omega
    have hup : ∀ {l : List Int}, (∀ b ∈ l, 0 ≤ b ∧ b ≤ (i : Int) ∧ b ≤ xs.length) → ∀ b ∈ l, 0 ≤ b ∧ b ≤ ((i + 1 : Nat) : Int) ∧ b ≤ xs.length := fun h b hm => by have := h b hm; omega
    have a1 := asc_snoc ha (fun b h => (hb b h).2.1) (by omega : (0 : Int) ≤ i)
    have a2 := asc_snoc a1 (fun b h => (hmem hb b h).2.1) (by omega : (0 : Int) ≤ i)
    have e2 : decide (IntKind.i64.wrap (2 * (i : Int)) < 0) = false := by rw [w64 (by omega)]; exact decide_eq_false (by omega)
    rw [ancepsref14_Made.l8_eq, ifB_of _ _ (decide_eq_true (by omega)), e2, ifB_false]
    generalize IntKind.i64.wrap (bitsOp BinOp.and IntKind.u32 (shrInt IntKind.u32 u (IntKind.i64.wrap (2 * (i : Int)))) 3) = m
    rw [w64_succ (by omega)]
    have g1 : grow (bs.length + [(i : Int)].length) = some () := grow_one bs (by omega)
    have g2 : grow ((bs ++ [(i : Int)]).length + [(i : Int)].length) = some () := grow_one _ (by simp only [List.length_append, List.length_singleton]; omega)
    rw [g1, g2]
    simp only [bindD_some]
    have r0 := ih bs (by omega) ha (hup hb) (by omega)
    have r1 := ih (bs ++ [(i : Int)]) (by omega) a1 (hup (hmem hb)) (by simp only [List.length_append, List.length_singleton]; omega)
    cases (m == 1)
    · cases (m == 3)
      · exact r0
      · by_cases h5 : (((bs ++ [(i : Int)]).length : Nat) : Int) < 5
        · simp only [ifB_true, ifB_false]
          rw [ifB_of _ _ (decide_eq_true h5)]
          refine ih (bs ++ [(i : Int)] ++ [(i : Int)]) (by omega) a2 (hup (hmem (hmem hb))) ?_
          simp only [List.length_append, List.length_singleton] at h5 ⊢; omega
        · simp only [ifB_true, ifB_false]
          rw [ifB_not _ _ (decide_eq_false h5)]; exact r1
    · cases (m == 3)
      · exact r1
      · by_cases h5 : (((bs ++ [(i : Int)]).length : Nat) : Int) < 5
        · simp only [ifB_true]
          rw [ifB_of _ _ (decide_eq_true h5)]
          refine ih (bs ++ [(i : Int)] ++ [(i : Int)]) (by omega) a2 (hup (hmem (hmem hb))) ?_
          simp only [List.length_append, List.length_singleton] at h5 ⊢; omega
        · simp only [ifB_true]
          rw [ifB_not _ _ (decide_eq_false h5)]; exact r1
theorem Made_f {l : List Int} (u : Int) (hl : l.length ≤ maxLen) (hb : ∀ b ∈ l, 0 ≤ b ∧ b < 256) : ∃ xs bs, ancepsref14_Made.f l u = some (xs, (bs, ())) ∧ valid xs bs = 0 ∧ xs.length ≤ 6 := by
  obtain ⟨xs, h1, h2, h3⟩ := Made_l4 u [] [] [] l [] [] (by unfold maxLen at hl; simp only [List.nil_append]; omega) (by simpa using hb) rfl (by simp) (fun _ h => by cases h)
  obtain ⟨bs, h4, h5, h6, h7⟩ := Made_l8 l u [] [] xs h1 (xs.length + 1) 0 [] (by omega) trivial (fun _ h => by cases h) (by simp)
  refine ⟨xs, bs, ?_, valid_of (by omega) h6 h4 h5 fun x hx => tab_ok (h2 x hx), h1⟩
  rw [ancepsref14_Made.f_eq]
  exact h3.trans h7

/-! the last place of the core -/
theorem core_last : ∀ (l : List Snd) (i : Nat), coreL l i ≠ [] → ∃ pre x post, l = pre ++ x :: post ∧ (coreL l i).getLast? = some ((i + pre.length : Nat) : Int) ∧ beats post = 0
  | [], _, h => absurd rfl h
  | x :: l, i, h => by
    by_cases hn : coreL l (i + 1) = []
    · refine ⟨[], x, l, rfl, ?_, core_nil l _ hn⟩
      simp only [coreL, hn] at h ⊢
      cases hx : (x.1 != 9)
      · rw [hx] at h; exact absurd rfl h
      · simp
    · obtain ⟨pre, y, post, h1, h2, h3⟩ := core_last l (i + 1) hn
      refine ⟨x :: pre, y, post, by rw [h1]; rfl, ?_, h3⟩
      have h4 : (i + (x :: pre).length : Nat) = i + 1 + pre.length := by simp only [List.length_cons]; omega
      simp only [coreL]; rw [h4]
      cases (x.1 != 9)
      · exact h2
      · rw [cond_true, List.getLast?_cons, h2]; rfl
theorem coda_split {xs : List Snd} {bs : List Int} (h : cls xs bs = 4) : ∃ pre x post, xs = pre ++ x :: post ∧ beats post = 0 ∧ coda xs bs = (bif x.1 == 7 then ((pre.length : Nat) : Int) + 1 else (pre.length : Nat)) ∧ (x.1 ≠ 7 → pre ≠ []) := by
  obtain ⟨h1, h2⟩ := cls_core h
  obtain ⟨pre, x, post, h3, h4, h5⟩ := core_last xs 0 h2
  refine ⟨pre, x, post, h3, h5, ?_, ?_⟩
  · unfold coda; rw [h, h4]
    have : kd xs ((pre.length : Nat) : Int) = x.1 := by unfold kd; rw [h3, ixAt_at]
    simp only [Nat.zero_add, this]; rfl
  · rintro h7 rfl
    rw [h3] at h1
    simp only [List.nil_append, beats, h5] at h1
    have : beat x.1 ≤ 1 := by
      unfold beat; rw [beq_eq_false_iff_ne.2 h7]; cases (decide (x.1 ≥ 3) && decide (x.1 ≤ 8)) <;> simp
    omega
theorem subL_end {α : Type} (p s : List α) : subL (p ++ s) (p.length : Nat) ((p ++ s).length : Nat) = some s := by
  unfold subL
  rw [if_pos (by simp only [List.length_append]; omega), Int.toNat_natCast, Int.toNat_natCast, List.take_length, List.drop_left]
theorem coda_law {l : List Int} (u : Int) (hl : l.length ≤ maxLen) (hb : ∀ b ∈ l, 0 ≤ b ∧ b < 256) : ancepslaw14_ClusterCoda.f l u = some (true, ()) := by
  obtain ⟨xs, bs, hm, hv, h6⟩ := Made_f u hl hb
  rw [ancepslaw14_ClusterCoda.f_eq, hm, awake_f]
  simp only [bindD_some, Class_f, Coda_f, hv, bne_self_eq_false, cond_false, Bool.not_true, ifB_false]
  by_cases hc : cls xs bs = 4
  · obtain ⟨pre, x, post, h1, h2, h3, h4⟩ := coda_split hc
    rw [hc, h3]
    have hlen : xs.length = pre.length + 1 + post.length := by rw [h1]; simp only [List.length_append, List.length_cons]; omega
    by_cases h7 : x.1 = 7
    · rw [beq_iff_eq.2 h7]; simp only [cond_true]
      rw [ifB_not _ _ (decide_eq_false (by omega)), ifB_not _ _ (decide_eq_false (by omega)), decide_eq_true (by omega : ((pre.length : Nat) : Int) + 1 > 0)]
      have e : (((pre.length : Nat) : Int) + 1 == 0) = false := by rw [beq_eq_false_iff_ne]; omega
      have e2 : subL xs (((pre.length : Nat) : Int) + 1) ((xs.length : Nat) : Int) = some post := by
        have := subL_end (pre ++ [x]) post
        rw [← app_at, ← h1] at this
        simpa using this
      rw [e, e2]; simp only [beq_self_eq_true, ifB_true, ifB_false, bindD_some]
      rw [Beats_f (by omega), h2]; rfl
    · rw [beq_eq_false_iff_ne.2 h7]; simp only [cond_false]
      have hp : 0 < pre.length := List.length_pos_iff.2 (h4 h7)
      rw [ifB_not _ _ (decide_eq_false (by omega)), ifB_not _ _ (decide_eq_false (by omega)), decide_eq_true (by omega : ((pre.length : Nat) : Int) > 0)]
      have e : (((pre.length : Nat) : Int) == 0) = false := by rw [beq_eq_false_iff_ne]; omega
      have e2 : subL xs ((pre.length : Nat) : Int) ((xs.length : Nat) : Int) = some (x :: post) := by
        have := subL_end pre (x :: post)
        rw [← h1] at this; exact this
      rw [e, e2]; simp only [beq_self_eq_true, ifB_true, ifB_false, bindD_some]
      rw [Beats_f (by simp only [List.length_cons]; omega)]
      have hbt : beats (x :: post) ≤ 1 := by
        have : beat x.1 ≤ 1 := by
          unfold beat; rw [beq_eq_false_iff_ne.2 h7]; cases (decide (x.1 ≥ 3) && decide (x.1 ≤ 8)) <;> simp
        simp only [beats, h2]; omega
      rw [bindD_some, decide_eq_true hbt]
  · have hc' : (cls xs bs != 4) = true := by simpa using hc
    have h0 : coda xs bs = 0 := by unfold coda; rw [hc']; rfl
    rw [h0, beq_eq_false_iff_ne.2 hc]
    have : decide ((0 : Int) > ((xs.length : Nat) : Int)) = false := decide_eq_false (by omega)
    rw [this]; rfl

/-! a breath in front -/
def hh : Snd := ((9 : Int), ((0 : Int), (ByteArray.mk (List.toArray ((104 : UInt8) :: ([] : (List UInt8)))))))
theorem core_shift : ∀ (l : List Snd) (i : Nat), coreL l (i + 1) = (coreL l i).map (· + 1)
  | [], _ => rfl
  | x :: l, i => by
    simp only [coreL, core_shift l (i + 1)]
    cases (x.1 != 9) <;> simp
theorem kd_shift {xs : List Snd} {a : Int} (h : 0 ≤ a) : kd (hh :: xs) (a + 1) = kd xs a := by
  unfold kd
  have h1 : a = (a.toNat : Int) := by omega
  have h2 : a + 1 = ((a.toNat + 1 : Nat) : Int) := by omega
  rw [h2, ixAt_nat, List.getElem?_cons_succ]
  conv => rhs; rw [h1, ixAt_nat]
theorem cls_shift (xs : List Snd) (bs : List Int) : cls (hh :: xs) (bs.map (· + 1)) = cls xs bs := by
  have hbt : beats (hh :: xs) = beats xs := by simp only [beats]; have : beat hh.1 = 0 := rfl; omega
  have hco : coreL (hh :: xs) 0 = (coreL xs 0).map (· + 1) := by rw [← core_shift]; rfl
  have hm := core_mem xs 0
  unfold cls
  rw [hbt, hco]
  generalize coreL xs 0 = K at hm ⊢
  match K, hm with
  | [], _ => rfl
  | [_], _ => rfl
  | [a, b], hm =>
    obtain ⟨n, h1, _⟩ := hm a (by simp)
    obtain ⟨m, h2, _⟩ := hm b (by simp)
    simp only [List.map_cons, List.map_nil]
    rw [kd_shift (by omega), kd_shift (by omega)]
    cases bs with
    | nil => rfl
    | cons c l =>
      have e1 : decide (c + 1 > b + 1) = decide (c > b) := by rw [decide_eq_decide]; omega
      have e2 : ∀ h, decide (((c + 1) :: l.map (· + 1)).getLast h ≤ a + 1) = decide ((c :: l).getLast (by simp) ≤ a) := by
        intro h
        have : ((c + 1) :: l.map (· + 1)).getLast h = (c :: l).getLast (by simp) + 1 := by
          have := List.getLast_map (f := fun x : Int => x + 1) (l := c :: l) (by simp)
          simpa using this
        rw [this, decide_eq_decide]; omega
      simp only [List.map_cons, e1, e2]
  | a :: b :: c :: l, _ => rfl
theorem coda_shift (xs : List Snd) (bs : List Int) : coda (hh :: xs) (bs.map (· + 1)) = bif cls xs bs == 4 then coda xs bs + 1 else coda xs bs := by
  by_cases hc : cls xs bs = 4
  · obtain ⟨_, hne⟩ := cls_core hc
    have hm := core_mem xs 0
    have hco : coreL (hh :: xs) 0 = (coreL xs 0).map (· + 1) := by rw [← core_shift]; rfl
    unfold coda
    rw [cls_shift, hc, hco, List.getLast?_map, List.getLast?_eq_some_getLast hne]
    obtain ⟨n, h1, _⟩ := hm _ (List.getLast_mem hne)
    simp only [Option.map_some]
    rw [kd_shift (by omega)]
    cases (kd xs ((coreL xs 0).getLast hne) == 7) <;> rfl
  · have h1 : (cls xs bs != 4) = true := by simpa using hc
    unfold coda
    rw [cls_shift, h1, beq_eq_false_iff_ne.2 hc]; rfl
theorem asc_map : ∀ {l : List Int} {a : Int}, Asc a l → Asc (a + 1) (l.map (· + 1))
  | [], _, _ => trivial
  | b :: l, a, h => ⟨by have := h.1; show a + 1 ≤ b + 1; omega, asc_map h.2⟩
theorem asc_down : ∀ {l : List Int} {a b : Int}, Asc a l → b ≤ a → Asc b l
  | [], _, _, _, _ => trivial
  | c :: l, a, b, h, hb => ⟨by have := h.1; omega, h.2⟩
theorem valid_shift {xs : List Snd} {bs : List Int} (h : valid xs bs = 0) (h6 : xs.length ≤ 6) : valid (hh :: xs) (bs.map (· + 1)) = 0 := by
  obtain ⟨h1, h2, h3⟩ := valid_asc h
  obtain ⟨_, h5, _⟩ := valid_small h
  refine valid_of (by simp only [List.length_cons]; omega) (by simpa using h5) (asc_down (asc_map h1) (by omega)) ?_ ?_
  · intro b hb
    obtain ⟨c, hc, rfl⟩ := List.mem_map.1 hb
    have := h2 c hc
    simp only [List.length_cons]; omega
  · intro x hx
    rcases List.mem_cons.1 hx with rfl | hx
    · exact tab_ok (x := hh) (by unfold tab hh; simp)
    · exact h3 x hx
theorem Breath_l6 (xs hs : List Snd) (bs0 : List Int) (R : Option (Bool × Unit)) : ∀ (suf pre out : List Int), (pre ++ suf).length < 1000000 → out.length = pre.length → (∀ b ∈ suf, 0 ≤ b ∧ b ≤ 1000000) →
    ancepslaw14_ClusterBreath.l6 (pre ++ suf) ((pre ++ suf).length : Nat) ((pre ++ suf).length : Nat) xs bs0 hs (out ++ suf.map (· + 1)) = R →
    ancepslaw14_ClusterBreath.l6 (pre ++ suf) ((pre ++ suf).length : Nat) (pre.length : Nat) xs bs0 hs out = R
  | [], pre, out, h, ho, hb, hR => by simpa using hR
  | b :: suf, pre, out, h, ho, hb, hR => by
    have hl : pre.length < 1000000 := by simp only [List.length_append] at h; omega
    have := hb b (by simp)
    have ih := Breath_l6 xs hs bs0 R suf (pre ++ [b]) (out ++ [b + 1]) (by rw [← app_at]; exact h) (by simp [ho]) (fun c hc => hb c (by simp [hc])) (by rw [← app_at]; simpa using hR)
    rw [ancepslaw14_ClusterBreath.l6_eq, ifB_of _ _ (lt_at pre b suf), ixAt_at, bindD_some, grow_one out (by omega), bindD_some, w_pre pre b (by omega), w64 (n := b + 1) (by omega), app_at pre b suf]
    exact ih
theorem breath_law {l : List Int} (u : Int) (hl : l.length ≤ maxLen) (hb : ∀ b ∈ l, 0 ≤ b ∧ b < 256) : ancepslaw14_ClusterBreath.f l u = some (true, ()) := by
  obtain ⟨xs, bs, hm, hv, h6⟩ := Made_f u hl hb
  obtain ⟨v1, v2, v3⟩ := valid_small hv
  obtain ⟨a1, a2, a3⟩ := valid_asc hv
  rw [ancepslaw14_ClusterBreath.f_eq, hm, awake_f]
  simp only [bindD_some, Bool.not_true, ifB_false]
  rw [grow_ok (by simp only [List.length_singleton]; omega), bindD_some]
  refine Breath_l6 xs (hh :: xs) bs _ bs [] [] (by simp only [List.nil_append]; omega) rfl (fun b hb => by have := a2 b hb; omega) ?_
  rw [ancepslaw14_ClusterBreath.l6_eq, ifB_not _ _ (decide_eq_false (by omega))]
  simp only [List.nil_append, Class_f, Coda_f, hv, valid_shift hv h6, bindD_some, bne_self_eq_false, cond_false, cls_shift, coda_shift, beq_self_eq_true, ifB_true]
  by_cases hc : cls xs bs = 4
  · obtain ⟨pre, x, post, h1, h2, h3, h4⟩ := coda_split hc
    have hlen : xs.length = pre.length + 1 + post.length := by rw [h1]; simp only [List.length_append, List.length_cons]; omega
    have hcb : 0 ≤ coda xs bs ∧ coda xs bs ≤ 100 := by rw [h3]; cases (x.1 == 7) <;> simp only [cond_true, cond_false] <;> omega
    rw [hc, w64 (by omega)]; simp [ifB]
  · rw [beq_eq_false_iff_ne.2 hc]; simp [ifB]
end Go.Proofs.C14
