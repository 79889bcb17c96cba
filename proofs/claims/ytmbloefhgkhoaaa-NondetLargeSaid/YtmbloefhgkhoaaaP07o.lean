/- Automata with choices: what Union, Concat and Star answer, in both texts. -/
import Derived.Test.YtmbloefhgkhoaaaP07n
set_option linter.unusedVariables false
set_option linter.unusedSimpArgs false
namespace Go.Proofs.C07
open Go Go.Proofs.R
open M (lt_at lt_end w_at app_at LLI)
set_option linter.unusedVariables false
set_option linter.unusedSimpArgs false
set_option maxRecDepth 100000

/-! states and edges, moved -/
def sm (n : Int) : Prop := 0 ≤ n ∧ n ≤ 1000000
theorem wadd {a b : Int} (ha : sm a) (hb : sm b) : IntKind.i64.wrap (a + b) = a + b := by
  obtain ⟨h1, h2⟩ := ha
  obtain ⟨h3, h4⟩ := hb
  exact w64 (by omega)
theorem moved_l3 (k : Int) (hk : sm k) : ∀ (suf pre : List Int), (pre ++ suf).length < 1000000 → (∀ s ∈ suf, sm s) →
    nondet_moved.l3 k (pre ++ suf) ((pre ++ suf).length : Nat) (pre.length : Nat) (shL k pre) = some (shL k (pre ++ suf), ())
  | [], pre, h, _ => by rw [nondet_moved.l3_eq, ifB_not _ _ (lt_end pre), List.append_nil]
  | x :: suf, pre, h, hs => by
    have hl : pre.length < 1000000 := by simp only [List.length_append] at h; omega
    have e : shL k pre ++ [x + k] = shL k (pre ++ [x]) := by simp [shL]
    rw [nondet_moved.l3_eq, ifB_of _ _ (lt_at pre x suf), ixAt_at, bindD_some, wadd (hs x List.mem_cons_self) hk, grow_one _ (by simp [shL]; omega), bindD_some, w_pre pre x (by omega), e, app_at pre x suf]
    exact moved_l3 k hk suf (pre ++ [x]) (by rw [← app_at]; exact h) (fun s hq => hs s (List.mem_cons_of_mem _ hq))
theorem moved_f {k : Int} (hk : sm k) {l : List Int} (h : l.length < 1000000) (hs : ∀ s ∈ l, sm s) : nondet_moved.f l k = some (shL k l, ()) := by
  rw [nondet_moved.f_eq]
  exact moved_l3 k hk l [] h hs
theorem rmoved_l3 (k : Int) (hk : sm k) : ∀ (suf pre : List Int), (pre ++ suf).length < 1000000 → (∀ s ∈ suf, sm s) →
    ancepsref07_moved.l3 (pre ++ suf) k (pre.length : Nat) (shL k pre) = some (shL k (pre ++ suf), ())
  | [], pre, h, _ => by rw [ancepsref07_moved.l3_eq, ifB_not _ _ (lt_end pre), List.append_nil]
  | x :: suf, pre, h, hs => by
    have hl : pre.length < 1000000 := by simp only [List.length_append] at h; omega
    have e : shL k pre ++ [x + k] = shL k (pre ++ [x]) := by simp [shL]
    rw [ancepsref07_moved.l3_eq, ifB_of _ _ (lt_at pre x suf), ixAt_at, bindD_some, wadd (hs x List.mem_cons_self) hk, grow_one _ (by simp [shL]; omega), bindD_some, w_pre pre x (by omega), e, app_at pre x suf]
    exact rmoved_l3 k hk suf (pre ++ [x]) (by rw [← app_at]; exact h) (fun s hq => hs s (List.mem_cons_of_mem _ hq))
theorem rmoved_f {k : Int} (hk : sm k) {l : List Int} (h : l.length < 1000000) (hs : ∀ s ∈ l, sm s) : ancepsref07_moved.f l k = some (shL k l, ()) := by
  rw [ancepsref07_moved.f_eq]
  exact rmoved_l3 k hk l [] h hs

section
variable {L Sa Sb : Int} {Ta Tb : List Int} {Ea Eb : List Ed} {Aa Ab : List Int}
theorem beside_l5 (c1 c2 : Int) (d1 : List Int) (d2 : List Ed) (d3 : List Int) (b0 b1 S : Int) (e1 : List Int) (e2 : List Ed) (e3 : List Int) (T A : List Int) (hk : sm Sa) : ∀ (suf pre : List Ed) (E : List Ed), (pre ++ suf).length < 1000000 → E.length + suf.length < 1000000 → (∀ x ∈ suf, sm x.1 ∧ sm x.2.2) →
    nondet_beside.l5 (pre ++ suf) ((pre ++ suf).length : Nat) (pre.length : Nat) c1 Sa d1 d2 d3 b0 b1 L S e1 e2 e3 T E A = some (L, (S, (T, (E ++ shE Sa suf, (A, (0, ()))))))
  | [], pre, E, h, h2, _ => by rw [nondet_beside.l5_eq, ifB_not _ _ (lt_end pre)]; simp [shE]
  | x :: suf, pre, E, h, h2, hs => by
    have hl : pre.length < 1000000 := by simp only [List.length_append] at h; omega
    have hx := hs x List.mem_cons_self
    simp only [List.length_cons] at h2
    rw [nondet_beside.l5_eq, ifB_of _ _ (lt_at pre x suf), ixAt_at, bindD_some, wadd hx.1 hk, wadd hx.2 hk, grow_one _ (by omega), bindD_some, w_pre pre x (by omega), app_at pre x suf,
      beside_l5 c1 c2 d1 d2 d3 b0 b1 S e1 e2 e3 T A hk suf (pre ++ [x]) _ (by rw [← app_at]; exact h) (by simp; omega) (fun y hy => hs y (List.mem_cons_of_mem _ hy))]
    simp [shE]
theorem both_l4 (c1 : Int) (d1 : List Int) (d2 : List Ed) (d3 : List Int) (c3 c4 : Int) (d4 d5 : List Int) (b0 b1 S : Int) (e1 : List Int) (e2 : List Ed) (e3 : List Int) (T A : List Int) (hk : sm Sa) : ∀ (suf pre : List Ed) (E : List Ed), (pre ++ suf).length < 1000000 → E.length + suf.length < 1000000 → (∀ x ∈ suf, sm x.1 ∧ sm x.2.2) →
    ancepsref07_both.l4 (pre.length : Nat) c1 Sa d1 d2 d3 c3 c4 d4 (pre ++ suf) d5 b0 b1 L S e1 e2 e3 T E A = some (L, (S, (T, (E ++ shE Sa suf, (A, ())))))
  | [], pre, E, h, h2, _ => by rw [ancepsref07_both.l4_eq, ifB_not _ _ (lt_end pre)]; simp [shE]
  | x :: suf, pre, E, h, h2, hs => by
    have hl : pre.length < 1000000 := by simp only [List.length_append] at h; omega
    have hx := hs x List.mem_cons_self
    simp only [List.length_cons] at h2
    rw [ancepsref07_both.l4_eq, ifB_of _ _ (lt_at pre x suf), ixAt_at, bindD_some, wadd hx.1 hk, wadd hx.2 hk, grow_one _ (by omega), bindD_some, w_pre pre x (by omega), app_at pre x suf,
      both_l4 c1 d1 d2 d3 c3 c4 d4 d5 b0 b1 S e1 e2 e3 T A hk suf (pre ++ [x]) _ (by rw [← app_at]; exact h) (by simp; omega) (fun y hy => hs y (List.mem_cons_of_mem _ hy))]
    simp [shE]
theorem NV.smS {L S : Int} {St : List Int} {E : List Ed} {Ac : List Int} (h : NV L S St E Ac) : sm S := ⟨h.s0, by have := h.s4; omega⟩
theorem NV.smT {L S : Int} {St : List Int} {E : List Ed} {Ac : List Int} (h : NV L S St E Ac) : ∀ s ∈ St, sm s := fun s hs => by have := h.st s hs; have := h.s4; exact ⟨by omega, by omega⟩
theorem NV.smA {L S : Int} {St : List Int} {E : List Ed} {Ac : List Int} (h : NV L S St E Ac) : ∀ s ∈ Ac, sm s := fun s hs => by have := h.ac s hs; have := h.s4; exact ⟨by omega, by omega⟩
theorem NV.smE {L S : Int} {St : List Int} {E : List Ed} {Ac : List Int} (h : NV L S St E Ac) : ∀ x ∈ E, sm x.1 ∧ sm x.2.2 := fun s hs => by have := h.ed s hs; have := h.s4; exact ⟨⟨by omega, by omega⟩, by omega, by omega⟩
variable {L' : Int}
/-- two automata of the same letters -/
def two (L Sa : Int) (Ta : List Int) (Ea : List Ed) (Aa : List Int) (L' Sb : Int) (Tb : List Int) (Eb : List Ed) (Ab : List Int) : Bool := nok L Sa Ta Ea Aa && (nok L' Sb Tb Eb Ab && (L == L'))
theorem beside_f (h1 : Ta.length < 1000000) (h2 : Aa.length < 1000000) (h3 : Tb.length < 1000000) (h4 : Ab.length < 1000000) :
    nondet_beside.f L Sa Ta Ea Aa L' Sb Tb Eb Ab = some (bif two L Sa Ta Ea Aa L' Sb Tb Eb Ab then (L, (Sa + Sb, ([], (Ea ++ shE Sa Eb, ([], (0, ())))))) else errV 1) := by
  rw [nondet_beside.f_eq, nvalid_f _ _ _ _ _ h1 h2, bindD_some, nvalid_f _ _ _ _ _ h3 h4]
  unfold two
  cases ha : nok L Sa Ta Ea Aa with
  | false => rfl
  | true =>
    cases hb : nok L' Sb Tb Eb Ab with
    | false => rfl
    | true =>
      rw [ifB_not _ _ (by rfl), bindD_some, ifB_not _ _ (by rfl)]
      have hA := nv_of ha
      have hB := nv_of hb
      by_cases he : L = L'
      · subst he
        have := hA.e; have := hB.e
        rw [ifB_not _ _ (by simp), wadd hA.smS hB.smS, api_Edge.f_eq, grow_ok (by omega), bindD_some, bindD_some]
        have := beside_l5 (L := L) (Sa := Sa) L 0 Ta Ea Aa 0 0 (Sa + Sb) [] [] [] [] [] hA.smS Eb [] Ea (by simp; omega) (by omega) hB.smE
        rw [List.nil_append, List.length_nil, Int.ofNat_zero] at this
        simp only [beq_self_eq_true, Bool.and_self, cond_true]
        exact this
      · have e1 : (L != L') = true := by simpa using he
        have e2 : (L == L') = false := by simpa using he
        rw [ifB_of _ _ e1, e2]; rfl
theorem rtwo_f (h1 : Ta.length < 1000000) (h2 : Aa.length < 1000000) (h3 : Tb.length < 1000000) (h4 : Ab.length < 1000000) : ancepsref07_two.f L Sa Ta Ea Aa L' Sb Tb Eb Ab = some (errN (two L Sa Ta Ea Aa L' Sb Tb Eb Ab), ()) := by
  rw [ancepsref07_two.f_eq, rnvalid_f _ _ _ _ _ h1 h2, bindD_some, rnvalid_f _ _ _ _ _ h3 h4]
  unfold two
  cases ha : nok L Sa Ta Ea Aa with
  | false => rfl
  | true =>
    cases hb : nok L' Sb Tb Eb Ab with
    | false => rfl
    | true =>
      rw [ifB_not _ _ (by rfl), bindD_some, ifB_not _ _ (by rfl)]
      by_cases he : L = L'
      · subst he; rw [ifB_not _ _ (by simp)]; simp [errN]
      · have e1 : (L != L') = true := by simpa using he
        have e2 : (L == L') = false := by simpa using he
        rw [ifB_of _ _ e1, e2]; rfl
theorem rboth_f (hA : NV L Sa Ta Ea Aa) (hB : NV L Sb Tb Eb Ab) : ancepsref07_both.f L Sa Ta Ea Aa L Sb Tb Eb Ab = some (L, (Sa + Sb, (Ta, (Ea ++ shE Sa Eb, (shL Sa Ab, ()))))) := by
  have := hA.e; have := hB.e; have := hA.stl; have := hA.s4; have := hB.acl; have := hB.s4
  rw [ancepsref07_both.f_eq, grow_ok (by simp; omega), bindD_some, rmoved_f hA.smS (by omega) hB.smA, bindD_some, grow_ok (by omega), bindD_some, wadd hA.smS hB.smS]
  have := both_l4 (L := L) (Sa := Sa) L Ta Ea Aa L Sb Tb Ab 0 0 (Sa + Sb) [] [] [] Ta (shL Sa Ab) hA.smS Eb [] Ea (by simp; omega) (by omega) hB.smE
  rw [List.nil_append, List.length_nil, Int.ofNat_zero] at this
  exact this

/-! Union -/
theorem shE_asc {k : Int} {E : List Ed} (h : E.Pairwise fun a b => aheadB a b = true) : (shE k E).Pairwise fun a b => aheadB a b = true := by
  unfold shE
  refine List.pairwise_map.2 (h.imp fun {a b} hab => ?_)
  rw [ahead_iff] at hab ⊢
  simp only
  omega
theorem be_asc (hA : NV2 L Sa Ta Ea Aa) (hB : NV2 L Sb Tb Eb Ab) : (Ea ++ shE Sa Eb).Pairwise fun a b => aheadB a b = true := by
  rw [List.pairwise_append]
  refine ⟨hA.asc, shE_asc hB.asc, fun a ha b hb => ?_⟩
  have h1 := hA.ed a ha
  have h2 := hB.ed _ (mem_shE.1 hb)
  rw [ahead_iff]
  simp only at h2
  omega
theorem be_ok (hA : NV2 L Sa Ta Ea Aa) (hB : NV2 L Sb Tb Eb Ab) : ∀ x ∈ Ea ++ shE Sa Eb, 0 ≤ x.1 ∧ x.1 < Sa + Sb ∧ 0 ≤ x.2.2 ∧ x.2.2 < Sa + Sb ∧ -1 ≤ x.2.1 ∧ x.2.1 < L := by
  intro x hx
  have := hA.s0; have := hB.s0
  rcases List.mem_append.1 hx with hx | hx
  · have := hA.ed x hx; omega
  · have := hB.ed _ (mem_shE.1 hx)
    simp only at this; omega
theorem un_asc {S T : Int} {l m : List Int} (hS : 0 ≤ S) (hT : 0 ≤ T) (hl : ascP S none l = true) (hm : ascP T none m = true) : ascP (S + T) none (l ++ shL S m) = true := by
  have h1 := asc_mem hl
  have h2 := asc_mem hm
  refine ascP_of ?_ ?_ (fun _ h => by cases h)
  · rw [List.pairwise_append]
    refine ⟨(asc_pw hl).1, ?_, fun a ha b hb => ?_⟩
    · unfold shL
      exact List.pairwise_map.2 ((asc_pw hm).1.imp fun h => by omega)
    · have := h1 a ha
      have := h2 _ (mem_shL.1 hb)
      omega
  · intro x hx
    rcases List.mem_append.1 hx with hx | hx
    · have := h1 x hx; omega
    · have := h2 _ (mem_shL.1 hx); omega
theorem two_iff : two L Sa Ta Ea Aa L' Sb Tb Eb Ab = true ↔ nok L Sa Ta Ea Aa = true ∧ nok L' Sb Tb Eb Ab = true ∧ L = L' := by
  unfold two; simp
theorem srt_self {E : List Ed} (h : E.Pairwise fun a b => aheadB a b = true) : Srt E E := ⟨h, fun _ => Iff.rfl⟩
theorem asc_nd {E : List Ed} (h : E.Pairwise fun a b => aheadB a b = true) : E.Nodup := h.imp fun hab e => by rw [e, ahead_irr] at hab; cases hab
def unR (L Sa Sb : Int) (Ta Tb : List Int) (Ea Eb : List Ed) (Aa Ab : List Int) : NR := (L, (Sa + Sb, (Ta ++ shL Sa Tb, (Ea ++ shE Sa Eb, (Aa ++ shL Sa Ab, (0, ()))))))
theorem pun_f (ha : nok L Sa Ta Ea Aa = true) (hb : nok L Sb Tb Eb Ab = true) : nondet_Union.f L Sa Ta Ea Aa L Sb Tb Eb Ab = if Sa + Sb > 400 ∨ (((Ea ++ shE Sa Eb).length : Nat) : Int) > 4000 then some (errV 3) else some (unR L Sa Sb Ta Tb Ea Eb Aa Ab) := by
  have hA := nv2_of ha
  have hB := nv2_of hb
  have hE := be_asc hA hB
  have := hA.stl; have := hA.s4; have := hB.acl; have := hB.s4; have := hA.acl; have := hB.stl; have := hA.e; have := hB.e
  have hl1 : (shL Sa Tb).length = Tb.length := by simp [shL]
  have hl2 : (shL Sa Ab).length = Ab.length := by simp [shL]
  have hl3 : (shE Sa Eb).length = Eb.length := by simp [shE]
  have ht : two L Sa Ta Ea Aa L Sb Tb Eb Ab = true := two_iff.2 ⟨ha, hb, rfl⟩
  rw [nondet_Union.f_eq, beside_f (by omega) (by omega) (by omega) (by omega), bindD_some, ht]
  simp only [cond_true]
  rw [ifB_not _ _ (by rfl), clone_f (by omega), bindD_some, moved_f hA.smS (by omega) hB.smT, bindD_some]
  simp only
  rw [grow_ok (n := Ta.length + (shL Sa Tb).length) (by omega), bindD_some, clone_f (by omega), bindD_some, moved_f hA.smS (by omega) hB.smA, bindD_some]
  simp only
  rw [grow_ok (n := Aa.length + (shL Sa Ab).length) (by omega), bindD_some]
  by_cases hs : Sa + Sb > 400
  · rw [ifB_of _ _ (decide_eq_true hs), if_pos (.inl hs)]; rfl
  · by_cases he : (((Ea ++ shE Sa Eb).length : Nat) : Int) > 4000
    · rw [ifB_not _ _ (decide_eq_false hs), ifB_of _ _ (decide_eq_true he), if_pos (.inr he)]; rfl
    · rw [ifB_not _ _ (decide_eq_false hs), ifB_not _ _ (decide_eq_false he), grow_ok (by omega), bindD_some, sort_edges (srt_self hE) (asc_nd hE), bindD_some, if_neg (by simp only [not_or]; exact ⟨hs, he⟩)]; rfl
theorem run_f (ha : nok L Sa Ta Ea Aa = true) (hb : nok L Sb Tb Eb Ab = true) : ancepsref07_Union.f L Sa Ta Ea Aa L Sb Tb Eb Ab = if Sa + Sb > 400 ∨ (((Ea ++ shE Sa Eb).length : Nat) : Int) > 4000 then some (errV 3) else some (unR L Sa Sb Ta Tb Ea Eb Aa Ab) := by
  have hA := nv2_of ha
  have hB := nv2_of hb
  have := hA.stl; have := hA.s4; have := hB.acl; have := hB.s4; have := hA.acl; have := hB.stl; have := hA.e; have := hB.e
  have hl1 : (shL Sa Tb).length = Tb.length := by simp [shL]
  have hl2 : (shL Sa Ab).length = Ab.length := by simp [shL]
  have ht : two L Sa Ta Ea Aa L Sb Tb Eb Ab = true := two_iff.2 ⟨ha, hb, rfl⟩
  rw [ancepsref07_Union.f_eq, rtwo_f (by omega) (by omega) (by omega) (by omega), bindD_some, ht, ifB_not _ _ (by rfl), rboth_f hA.toNV hB.toNV, bindD_some, rmoved_f hA.smS (by omega) hB.smT, bindD_some]
  simp only [List.nil_append, List.length_nil, Nat.zero_add]
  rw [grow_ok (n := Ta.length + (shL Sa Tb).length) (by omega), bindD_some, grow_ok (n := Aa.length) (by omega), bindD_some, grow_ok (n := Aa.length + (shL Sa Ab).length) (by omega), bindD_some, ancepsref07_large.f_eq]
  by_cases hs : Sa + Sb > 400
  · rw [ifB_of _ _ (decide_eq_true hs), if_pos (.inl hs)]; rfl
  · rw [ifB_not _ _ (decide_eq_false hs), bindD_some]
    by_cases he : (((Ea ++ shE Sa Eb).length : Nat) : Int) > 4000
    · rw [decide_eq_true he, if_pos (.inr he)]; rfl
    · rw [decide_eq_false he, if_neg (by simp only [not_or]; exact ⟨hs, he⟩)]; rfl
theorem union_f (h1 : Ta.length < 1000000) (h2 : Aa.length < 1000000) (h3 : Tb.length < 1000000) (h4 : Ab.length < 1000000) :
    (two L Sa Ta Ea Aa L' Sb Tb Eb Ab = false ∧ nondet_Union.f L Sa Ta Ea Aa L' Sb Tb Eb Ab = some (errV 1) ∧ ancepsref07_Union.f L Sa Ta Ea Aa L' Sb Tb Eb Ab = some (errV 1)) ∨
    (two L Sa Ta Ea Aa L' Sb Tb Eb Ab = true ∧ (400 < Sa + Sb ∨ 4000 < (Ea ++ shE Sa Eb).length) ∧ nondet_Union.f L Sa Ta Ea Aa L' Sb Tb Eb Ab = some (errV 3) ∧ ancepsref07_Union.f L Sa Ta Ea Aa L' Sb Tb Eb Ab = some (errV 3)) ∨
    (two L Sa Ta Ea Aa L' Sb Tb Eb Ab = true ∧ Sa + Sb ≤ 400 ∧ nok L (Sa + Sb) (Ta ++ shL Sa Tb) (Ea ++ shE Sa Eb) (Aa ++ shL Sa Ab) = true ∧ nondet_Union.f L Sa Ta Ea Aa L' Sb Tb Eb Ab = some (unR L Sa Sb Ta Tb Ea Eb Aa Ab) ∧ ancepsref07_Union.f L Sa Ta Ea Aa L' Sb Tb Eb Ab = some (unR L Sa Sb Ta Tb Ea Eb Aa Ab)) := by
  cases ht : two L Sa Ta Ea Aa L' Sb Tb Eb Ab with
  | false =>
    refine .inl ⟨rfl, ?_, ?_⟩
    · rw [nondet_Union.f_eq, beside_f h1 h2 h3 h4, ht]; rfl
    · rw [ancepsref07_Union.f_eq, rtwo_f h1 h2 h3 h4, ht]; rfl
  | true =>
    right
    obtain ⟨ha, hb, rfl⟩ := two_iff.1 ht
    have hA := nv2_of ha
    have hB := nv2_of hb
    rw [pun_f ha hb, run_f ha hb]
    by_cases hc : Sa + Sb > 400 ∨ (((Ea ++ shE Sa Eb).length : Nat) : Int) > 4000
    · rw [if_pos hc]
      exact .inl ⟨rfl, by omega, rfl, rfl⟩
    · rw [if_neg hc]
      exact .inr ⟨rfl, by omega, nok_of ⟨hA.l1, hA.l8⟩ ⟨by have := hA.s0; have := hB.s0; omega, by omega⟩ (by omega) (un_asc hA.s0 hB.s0 hA.sa hB.sa) (un_asc hA.s0 hB.s0 hA.aa hB.aa) (be_asc hA hB) (be_ok hA hB), rfl, rfl⟩

/-! Concat -/
theorem joE_cons (s : Int) (A : List Int) (k : Int) (T : List Int) : joE (s :: A) k T = (T.map fun t => (s, ((-1 : Int), t + k))) ++ joE A k T := rfl
theorem con_l11 (s : Int) (q1 : List Int) (q2 q3 c1 : Int) (d1 : List Int) (d2 : List Ed) (d3 : List Int) (c3 c4 : Int) (d4 : List Ed) (d5 : List Int) (b0 b1 l1 S : Int) (e1 : List Int) (e2 : List Ed) (e3 : List Int) (T A : List Int) (hk : sm Sa) : ∀ (suf pre : List Int) (E : List Ed), (pre ++ suf).length < 1000000 → E.length + suf.length < 1000000 → (∀ x ∈ suf, sm x) →
    nondet_Concat.l11 s q1 q2 q3 (pre ++ suf) ((pre ++ suf).length : Nat) (pre.length : Nat) c1 Sa d1 d2 d3 c3 c4 Tb d4 d5 b0 b1 l1 S e1 e2 e3 T E A =
      nondet_Concat.l8 q1 q2 (IntKind.i64.wrap (q3 + 1)) c1 Sa d1 d2 d3 c3 c4 Tb d4 d5 b0 b1 l1 S e1 e2 e3 T (E ++ suf.map fun t => (s, ((-1 : Int), t + Sa))) A
  | [], pre, E, h, h2, _ => by rw [nondet_Concat.l11_eq, ifB_not _ _ (lt_end pre)]; simp
  | x :: suf, pre, E, h, h2, hs => by
    have hl : pre.length < 1000000 := by simp only [List.length_append] at h; omega
    simp only [List.length_cons] at h2
    rw [nondet_Concat.l11_eq, ifB_of _ _ (lt_at pre x suf), ixAt_at, bindD_some, wadd (hs x List.mem_cons_self) hk, grow_one _ (by omega), bindD_some, w_pre pre x (by omega), app_at pre x suf,
      con_l11 s q1 q2 q3 c1 d1 d2 d3 c3 c4 d4 d5 b0 b1 l1 S e1 e2 e3 T A hk suf (pre ++ [x]) _ (by rw [← app_at]; exact h) (by simp; omega) (fun y hy => hs y (List.mem_cons_of_mem _ hy))]
    simp
theorem joE_len (A : List Int) (k : Int) (T : List Int) : (joE A k T).length = A.length * T.length := by
  induction A with
  | nil => simp [joE]
  | cons s A ih => rw [joE_cons, List.length_append, List.length_map, ih, List.length_cons, Nat.add_mul]; omega
/-- what stands behind the loops -/
noncomputable def smallT (L S : Int) (T : List Int) (E : List Ed) (A : List Int) : Option NR :=
  ifB (decide (S > (400 : Int))) (some (errV 3)) (ifB (decide ((((List.length E) : Nat) : Int) > (4000 : Int))) (some (errV 3))
    (bindD ((Go.Proofs.R.grow (List.length E))) fun t338 => bindD (sortB false (fun t339 t340 => bindD (nondet_order.f t339.1 t339.2.1 t339.2.2 t340.1 t340.2.1 t340.2.2) fun t341 => some t341.1) E) fun t342 => some (L, (S, (T, (t342, (A, ((0 : Int), ()))))))))
theorem con_l8 (c1 : Int) (d1 : List Int) (d2 : List Ed) (d3 : List Int) (c3 c4 : Int) (d4 : List Ed) (d5 : List Int) (b0 b1 S : Int) (e1 : List Int) (e2 : List Ed) (e3 : List Int) (T A : List Int) (hk : sm Sa) (hT : ∀ x ∈ Tb, sm x) (hTl : Tb.length < 1000000) : ∀ (suf pre : List Int) (E : List Ed), (pre ++ suf).length < 1000000 → E.length + suf.length * Tb.length < 1000000 →
    nondet_Concat.l8 (pre ++ suf) ((pre ++ suf).length : Nat) (pre.length : Nat) c1 Sa d1 d2 d3 c3 c4 Tb d4 d5 b0 b1 L S e1 e2 e3 T E A = smallT L S T (E ++ joE suf Sa Tb) A
  | [], pre, E, h, h2 => by rw [nondet_Concat.l8_eq, ifB_not _ _ (lt_end pre)]; simp only [joE, List.flatMap_nil, List.append_nil]; rfl
  | x :: suf, pre, E, h, h2 => by
    have hl : pre.length < 1000000 := by simp only [List.length_append] at h; omega
    simp only [List.length_cons, Nat.add_mul, Nat.one_mul] at h2
    have h11 := con_l11 (Sa := Sa) (Tb := Tb) x (pre ++ x :: suf) (((pre ++ x :: suf).length : Nat) : Int) (pre.length : Nat) c1 d1 d2 d3 c3 c4 d4 d5 b0 b1 L S e1 e2 e3 T A hk Tb [] E (by simpa using hTl) (by omega) hT
    rw [List.nil_append, List.length_nil, Int.ofNat_zero] at h11
    rw [nondet_Concat.l8_eq, ifB_of _ _ (lt_at pre x suf), ixAt_at, bindD_some, h11, w_pre pre x (by omega), app_at pre x suf,
      con_l8 c1 d1 d2 d3 c3 c4 d4 d5 b0 b1 S e1 e2 e3 T A hk hT hTl suf (pre ++ [x]) _ (by rw [← app_at]; exact h) (by simp only [List.length_append, List.length_map]; omega), joE_cons, List.append_assoc]
end
end Go.Proofs.C07
