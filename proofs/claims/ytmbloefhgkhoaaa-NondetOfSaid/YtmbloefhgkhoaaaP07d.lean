/- Automata with choices: words, and the law of Valid. -/
import Derived.Test.YtmbloefhgkhoaaaP07c
import Derived.Test.YtmbloefhgkhoaaaP07z
set_option linter.unusedVariables false
set_option linter.unusedSimpArgs false
namespace Go.Proofs.C07
open Go Go.Proofs.R
open M (lt_at lt_end w_at app_at)
set_option linter.unusedVariables false
set_option linter.unusedSimpArgs false
set_option maxRecDepth 100000

section
variable {L : Int} {n : Nat} {St : List Int} {E : List Ed} {Ac : List Int}

def accB (Ac : List Int) (B : LB) : Bool := Ac.any fun s => bat B s
theorem acc_l2 {B : LB} (hB : B.length = n) : ∀ (suf pre : List Int), (pre ++ suf).length < 1000000 → (∀ s ∈ suf, 0 ≤ s ∧ s < (n : Int)) →
    ∃ k : Int, slices_IndexFunc_int_int.l2_2 (pre ++ suf) B ((pre ++ suf).length : Nat) (pre.length : Nat) = some (k, ()) ∧ decide (k ≥ 0) = accB suf B
  | [], pre, h, _ => ⟨-1, by rw [slices_IndexFunc_int_int.l2_2_eq, ifB_not _ _ (lt_end pre)], rfl⟩
  | x :: suf, pre, h, hs => by
    have hl : pre.length < 1000000 := by simp only [List.length_append] at h; omega
    obtain ⟨k, h1, h2⟩ := acc_l2 hB suf (pre ++ [x]) (by rw [← app_at]; exact h) (fun s hq => hs s (by simp [hq]))
    rw [slices_IndexFunc_int_int.l2_2_eq, ifB_of _ _ (lt_at pre x suf), ixAt_at, bindD_some, nondet_graph_accepts_1.f_eq, ix_bat hB (hs x (by simp)), bindD_some, bindD_some, w_pre pre x (by omega), app_at pre x suf, h1]
    simp only [accB, List.any_cons]
    cases bat B x
    · exact ⟨k, rfl, by simpa [accB] using h2⟩
    · exact ⟨_, rfl, by simp⟩
theorem gacc_f {B : LB} (hB : B.length = n) (hA : ∀ s ∈ Ac, 0 ≤ s ∧ s < (n : Int)) (hl : Ac.length < 1000000) (G : List (List Ed)) (S : Int) : nondet_graph_accepts.f L S St E Ac G B = some (accB Ac B, ()) := by
  obtain ⟨k, h1, h2⟩ := acc_l2 hB Ac [] hl hA
  rw [List.nil_append, List.length_nil, Int.ofNat_zero] at h1
  rw [nondet_graph_accepts.f_eq, slices_ContainsFunc_int_int.f2_eq, slices_IndexFunc_int_int.f2_eq, h1, bindD_some, h2]; rfl
theorem meets_l5 (l A : List Int) (i : Nat) {x : Int} (hx : ixAt l (i : Int) = some x) : ∀ (suf pre : List Int), pre ++ suf = A → A.length < 1000000 →
    ancepsref07_meets.l5 l A (i : Int) (pre.length : Nat) = bif suf.any (fun y => x == y) then some (true, ()) else ancepsref07_meets.l2 l A (IntKind.i64.wrap ((i : Int) + 1))
  | [], pre, hq, h => by
    have := lt_end pre
    rw [hq] at this
    rw [ancepsref07_meets.l5_eq, ifB_not _ _ this]; rfl
  | y :: suf, pre, hq, h => by
    have hl : pre.length < 1000000 := by rw [← hq] at h; simp only [List.length_append] at h; omega
    have hlt := lt_at pre y suf
    have hix := ixAt_at pre y suf
    rw [hq] at hlt hix
    rw [ancepsref07_meets.l5_eq, ifB_of _ _ hlt, hx, bindD_some, hix, bindD_some, w_pre pre y (by omega), meets_l5 l A i hx suf (pre ++ [y]) (by rw [← app_at]; exact hq) h]
    simp only [List.any_cons]
    cases (x == y) <;> rfl
theorem meets_l2 (A : List Int) (hA : A.length < 1000000) : ∀ (suf pre : List Int), (pre ++ suf).length < 1000000 → ancepsref07_meets.l2 (pre ++ suf) A (pre.length : Nat) = some (suf.any (fun x => A.any fun y => x == y), ())
  | [], pre, h => by rw [ancepsref07_meets.l2_eq, ifB_not _ _ (lt_end pre)]; rfl
  | x :: suf, pre, h => by
    have hl : pre.length < 1000000 := by simp only [List.length_append] at h; omega
    have h5 := meets_l5 (pre ++ x :: suf) A pre.length (ixAt_at pre x suf) A [] rfl hA
    rw [List.length_nil, Int.ofNat_zero] at h5
    rw [ancepsref07_meets.l2_eq, ifB_of _ _ (lt_at pre x suf), h5, w_pre pre x (by omega), app_at pre x suf, meets_l2 A hA suf (pre ++ [x]) (by rw [← app_at]; exact h)]
    simp only [List.any_cons]
    cases A.any fun y => x == y <;> rfl
theorem meets_f {B : LB} (hB : B.length = n) (hn : n ≤ 400) (hA : ∀ s ∈ Ac, 0 ≤ s ∧ s < (n : Int)) (hl : Ac.length < 1000000) : ancepsref07_meets.f (memL B 0) Ac = some (accB Ac B, ()) := by
  have hml := mem_len B 0
  have := meets_l2 Ac hl (memL B 0) [] (by rw [List.nil_append]; omega)
  rw [List.nil_append, List.length_nil, Int.ofNat_zero] at this
  rw [ancepsref07_meets.f_eq, this]
  congr 2
  unfold accB
  rw [Bool.eq_iff_iff]
  simp only [List.any_eq_true, beq_iff_eq]
  constructor
  · rintro ⟨x, h1, y, h2, rfl⟩; exact ⟨x, h2, ((mem_bat hB x).1 h1).2⟩
  · rintro ⟨y, h1, h2⟩; exact ⟨y, (mem_bat hB y).2 ⟨hA y h1, h2⟩, y, h1, rfl⟩

/-! letters and states that are within -/
def out (hi : Int) (l : List Int) : Bool := l.any fun c => decide (c < 0) || decide (c ≥ hi)
theorem outA_l2 (L S : Int) (St : List Int) (E : List Ed) (Ac : List Int) : ∀ (suf pre : List Int), (pre ++ suf).length < 1000000 →
    ∃ k : Int, slices_IndexFunc_int_int.l2 (pre ++ suf) L S St E Ac ((pre ++ suf).length : Nat) (pre.length : Nat) = some (k, ()) ∧ decide (k ≥ 0) = out L suf
  | [], pre, h => ⟨-1, by rw [slices_IndexFunc_int_int.l2_eq, ifB_not _ _ (lt_end pre)], rfl⟩
  | x :: suf, pre, h => by
    have hl : pre.length < 1000000 := by simp only [List.length_append] at h; omega
    obtain ⟨k, h1, h2⟩ := outA_l2 L S St E Ac suf (pre ++ [x]) (by rw [← app_at]; exact h)
    rw [slices_IndexFunc_int_int.l2_eq, ifB_of _ _ (lt_at pre x suf), ixAt_at, bindD_some, nondet_Accepts_1.f_eq, w_pre pre x (by omega), app_at pre x suf, h1]
    simp only [out, List.any_cons]
    cases decide (x < 0) <;> cases decide (x ≥ L)
    · exact ⟨k, rfl, by simpa [out] using h2⟩
    · exact ⟨_, rfl, by simp⟩
    · exact ⟨_, rfl, by simp⟩
    · exact ⟨_, rfl, by simp⟩
theorem outA_f (L S : Int) (St : List Int) (E : List Ed) (Ac : List Int) {w : List Int} (h : w.length < 1000000) : slices_ContainsFunc_int_int.f w L S St E Ac = some (out L w, ()) := by
  obtain ⟨k, h1, h2⟩ := outA_l2 L S St E Ac w [] h
  rw [List.nil_append, List.length_nil, Int.ofNat_zero] at h1
  rw [slices_ContainsFunc_int_int.f_eq, slices_IndexFunc_int_int.f_eq, h1, bindD_some, h2]
theorem outC_l2 (L S : Int) (St : List Int) (E : List Ed) (Ac : List Int) : ∀ (suf pre : List Int), (pre ++ suf).length < 1000000 →
    ∃ k : Int, slices_IndexFunc_int_int.l2_1 (pre ++ suf) L S St E Ac ((pre ++ suf).length : Nat) (pre.length : Nat) = some (k, ()) ∧ decide (k ≥ 0) = out S suf
  | [], pre, h => ⟨-1, by rw [slices_IndexFunc_int_int.l2_1_eq, ifB_not _ _ (lt_end pre)], rfl⟩
  | x :: suf, pre, h => by
    have hl : pre.length < 1000000 := by simp only [List.length_append] at h; omega
    obtain ⟨k, h1, h2⟩ := outC_l2 L S St E Ac suf (pre ++ [x]) (by rw [← app_at]; exact h)
    rw [slices_IndexFunc_int_int.l2_1_eq, ifB_of _ _ (lt_at pre x suf), ixAt_at, bindD_some, nondet_Closure_1.f_eq, w_pre pre x (by omega), app_at pre x suf, h1]
    simp only [out, List.any_cons]
    cases decide (x < 0) <;> cases decide (x ≥ S)
    · exact ⟨k, rfl, by simpa [out] using h2⟩
    · exact ⟨_, rfl, by simp⟩
    · exact ⟨_, rfl, by simp⟩
    · exact ⟨_, rfl, by simp⟩
theorem outC_f (L S : Int) (St : List Int) (E : List Ed) (Ac : List Int) {w : List Int} (h : w.length < 1000000) : slices_ContainsFunc_int_int.f1 w L S St E Ac = some (out S w, ()) := by
  obtain ⟨k, h1, h2⟩ := outC_l2 L S St E Ac w [] h
  rw [List.nil_append, List.length_nil, Int.ofNat_zero] at h1
  rw [slices_ContainsFunc_int_int.f1_eq, slices_IndexFunc_int_int.f1_eq, h1, bindD_some, h2]
theorem out_false {hi : Int} {l : List Int} (h : out hi l = false) : ∀ c ∈ l, 0 ≤ c ∧ c < hi := by
  intro c hc
  unfold out at h
  have := List.any_eq_false.1 h c hc
  simp only [Bool.or_eq_true, decide_eq_true_eq, not_or] at this
  omega

/-! whole words -/
noncomputable def runB (n : Nat) (E : List Ed) (B : LB) (w : List Int) : LB := w.foldl (nxB n E) B
noncomputable def st0 (n : Nat) (E : List Ed) (St : List Int) : LB := clo n E fun s => s ∈ St
noncomputable def nacc (n : Nat) (St : List Int) (E : List Ed) (Ac : List Int) (w : List Int) : Bool := accB Ac (runB n E (st0 n E St) w)
theorem NV.nl (h : NV L (n : Int) St E Ac) : n ≤ 400 := by have := h.s4; omega
theorem NV.ei (h : NV L (n : Int) St E Ac) : EdIn n E := fun x hx => by have := h.ed x hx; omega
theorem NV.stn (h : NV L (n : Int) St E Ac) : St.length ≤ 400 := by have := h.stl; have := h.s4; omega
theorem NV.acn (h : NV L (n : Int) St E Ac) : Ac.length ≤ 400 := by have := h.acl; have := h.s4; omega
theorem word_l9 (h : NV L (n : Int) St E Ac) : ∀ (suf pre : List Int) (B : LB), B.length = n → (pre ++ suf).length < 1000000 →
    nondet_Accepts.l9 (pre ++ suf) ((pre ++ suf).length : Nat) (pre.length : Nat) L (n : Int) St E Ac (gr n E) B = some (accB Ac (runB n E B suf), (0, ()))
  | [], pre, B, hB, hl => by
    rw [nondet_Accepts.l9_eq, ifB_not _ _ (lt_end pre), gacc_f hB h.ac (by have := h.acn; omega)]; rfl
  | c :: suf, pre, B, hB, hl => by
    have hp : pre.length < 1000000 := by simp only [List.length_append] at hl; omega
    rw [nondet_Accepts.l9_eq, ifB_of _ _ (lt_at pre c suf), ixAt_at, bindD_some, step_f h.nl h.ei h.e hB, bindD_some, w_pre pre c (by omega), app_at pre c suf]
    exact word_l9 h suf (pre ++ [c]) _ (nxB_len _ _) (by rw [← app_at]; exact hl)
theorem rword_l11 (h : NV L (n : Int) St E Ac) : ∀ (suf pre : List Int) (B : LB), B.length = n → (pre ++ suf).length < 1000000 →
    ancepsref07_Accepts.l11 (pre ++ suf) (pre.length : Nat) L (n : Int) St E Ac (memL B 0) = some (accB Ac (runB n E B suf), (0, ()))
  | [], pre, B, hB, hl => by
    rw [ancepsref07_Accepts.l11_eq, ifB_not _ _ (lt_end pre), meets_f hB h.nl h.ac (by have := h.acn; omega)]; rfl
  | c :: suf, pre, B, hB, hl => by
    have hp : pre.length < 1000000 := by simp only [List.length_append] at hl; omega
    have he := h.e
    rw [ancepsref07_Accepts.l11_eq, ifB_of _ _ (lt_at pre c suf), ixAt_at, bindD_some, rnext_f h.nl h.ei (by omega) hB, bindD_some, w_pre pre c (by omega), app_at pre c suf]
    exact rword_l11 h suf (pre ++ [c]) _ (nxB_len _ _) (by rw [← app_at]; exact hl)
noncomputable def nres (L S : Int) (St : List Int) (E : List Ed) (Ac w : List Int) : Bool × Int × Unit :=
  bif nok L S St E Ac then (bif out L w then (false, (6, ())) else (nacc S.toNat St E Ac w, (0, ()))) else (false, (1, ()))
theorem accepts_f (L S : Int) (St : List Int) (E : List Ed) (Ac w : List Int) (h1 : St.length < 1000000) (h2 : Ac.length < 1000000) (hw : w.length < 1000000) : nondet_Accepts.f L S St E Ac w = some (nres L S St E Ac w) := by
  rw [nondet_Accepts.f_eq, nvalid_f _ _ _ _ _ h1 h2, bindD_some]; unfold nres
  cases hv : nok L S St E Ac
  · rfl
  · have hN := nv_of hv
    obtain ⟨n, rfl⟩ : ∃ n : Nat, S = n := ⟨S.toNat, by have := hN.s0; omega⟩
    have he := hN.e
    rw [ifB_not _ _ (by rfl), outA_f _ _ _ _ _ hw, bindD_some]
    cases ho : out L w
    · rw [ifB_false, open_f hN.nl (by omega) hN.ei, bindD_some]
      simp only
      rw [closure_f hN.nl hN.ei (by omega) hN.st (by have := hN.stn; omega), bindD_some]
      have := word_l9 hN w [] (clo n E fun s => s ∈ St) (clo_len _ _ _) hw
      rw [List.nil_append, List.length_nil, Int.ofNat_zero] at this
      exact this
    · rfl
theorem racc_l5 (L S : Int) (St : List Int) (E : List Ed) (Ac : List Int) (R : Option (Bool × Int × Unit)) (w : List Int) (hR : (bindD (ancepsref07_closed.f L S St E Ac St) fun t131 => ancepsref07_Accepts.l11 w 0 L S St E Ac t131.1) = R) : ∀ (suf pre : List Int), pre ++ suf = w → w.length < 1000000 →
    ancepsref07_Accepts.l5 w (pre.length : Nat) L S St E Ac = bif out L suf then some (false, (6, ())) else R
  | [], pre, hq, h => by
    have := lt_end pre
    rw [hq] at this
    rw [ancepsref07_Accepts.l5_eq, ifB_not _ _ this, hR]; rfl
  | x :: suf, pre, hq, h => by
    have hl : pre.length < 1000000 := by rw [← hq] at h; simp only [List.length_append] at h; omega
    have hlt := lt_at pre x suf
    have hix := ixAt_at pre x suf
    rw [hq] at hlt hix
    rw [ancepsref07_Accepts.l5_eq, ifB_of _ _ hlt, hix]
    simp only [bindD_some]
    rw [w_pre pre x (by omega), racc_l5 L S St E Ac R w hR suf (pre ++ [x]) (by rw [← app_at]; exact hq) h]
    simp only [out, List.any_cons]
    cases decide (x < 0) <;> cases decide (x ≥ L) <;> rfl
theorem raccepts_f (L S : Int) (St : List Int) (E : List Ed) (Ac w : List Int) (h1 : St.length < 1000000) (h2 : Ac.length < 1000000) (hw : w.length < 1000000) : ancepsref07_Accepts.f L S St E Ac w = some (nres L S St E Ac w) := by
  rw [ancepsref07_Accepts.f_eq, rnvalid_f _ _ _ _ _ h1 h2, bindD_some]; unfold nres
  cases hv : nok L S St E Ac
  · rfl
  · have hN := nv_of hv
    obtain ⟨n, rfl⟩ : ∃ n : Nat, S = n := ⟨S.toNat, by have := hN.s0; omega⟩
    have he := hN.e
    rw [ifB_not _ _ (by rfl)]
    have := rword_l11 hN w [] (clo n E fun s => s ∈ St) (clo_len _ _ _) hw
    rw [List.nil_append, List.length_nil, Int.ofNat_zero] at this
    have := racc_l5 L n St E Ac (some (nacc n St E Ac w, (0, ()))) w (by
      rw [closed_f hN.nl hN.ei (by omega) hN.st (by have := hN.stn; omega), bindD_some]
      exact this) w [] rfl hw
    rw [List.length_nil, Int.ofNat_zero] at this
    rw [this]
    cases out L w <;> rfl

/-! closures -/
noncomputable def cres (L S : Int) (St : List Int) (E : List Ed) (Ac l : List Int) : List Int × Int × Unit :=
  bif nok L S St E Ac then (bif out S l then ([], (6, ())) else (memL (clo S.toNat E fun s => s ∈ l) 0, (0, ()))) else ([], (1, ()))
theorem Closure_f (L S : Int) (St : List Int) (E : List Ed) (Ac l : List Int) (h1 : St.length < 1000000) (h2 : Ac.length < 1000000) (hl : l.length < 1000000) : nondet_Closure.f L S St E Ac l = some (cres L S St E Ac l) := by
  rw [nondet_Closure.f_eq, nvalid_f _ _ _ _ _ h1 h2, bindD_some]; unfold cres
  cases hv : nok L S St E Ac
  · rfl
  · have hN := nv_of hv
    obtain ⟨n, rfl⟩ : ∃ n : Nat, S = n := ⟨S.toNat, by have := hN.s0; omega⟩
    have he := hN.e
    have hn := hN.nl
    rw [ifB_not _ _ (by rfl), outC_f _ _ _ _ _ hl, bindD_some]
    cases ho : out (n : Int) l
    · rw [ifB_false, open_f hN.nl (by omega) hN.ei, bindD_some]
      simp only
      rw [closure_f hN.nl hN.ei (by omega) (out_false ho) (by omega), bindD_some]
      simp only
      rw [list_f (by rw [clo_len]; omega)]
      rfl
    · rfl
theorem rclos_l5 (L S : Int) (St : List Int) (E : List Ed) (Ac : List Int) (R : Option (List Int × Int × Unit)) (w : List Int) (hR : out S w = false → (bindD (ancepsref07_closed.f L S St E Ac w) fun t128 => some (t128.1, ((0 : Int), ()))) = R) : ∀ (suf pre : List Int), pre ++ suf = w → w.length < 1000000 → out S pre = false →
    ancepsref07_Closure.l5 w (pre.length : Nat) L S St E Ac = bif out S suf then some ([], (6, ())) else R
  | [], pre, hq, h, ho => by
    have := lt_end pre
    rw [hq] at this
    have he : pre = w := by rw [← hq]; simp
    rw [ancepsref07_Closure.l5_eq, ifB_not _ _ this, hR (by rw [← he]; exact ho)]; rfl
  | x :: suf, pre, hq, h, ho => by
    have hl : pre.length < 1000000 := by rw [← hq] at h; simp only [List.length_append] at h; omega
    have hlt := lt_at pre x suf
    have hix := ixAt_at pre x suf
    rw [hq] at hlt hix
    rw [ancepsref07_Closure.l5_eq, ifB_of _ _ hlt, hix]
    simp only [bindD_some]
    rw [w_pre pre x (by omega)]
    simp only [out, List.any_cons]
    cases a : decide (x < 0) <;> cases b : decide (x ≥ S)
    · rw [rclos_l5 L S St E Ac R w hR suf (pre ++ [x]) (by rw [← app_at]; exact hq) h (by
        unfold out at ho ⊢
        rw [List.any_append, ho]; simp [a, b])]
      rfl
    · rfl
    · rfl
    · rfl
theorem rClosure_f (L S : Int) (St : List Int) (E : List Ed) (Ac l : List Int) (h1 : St.length < 1000000) (h2 : Ac.length < 1000000) (hl : l.length < 1000000) : ancepsref07_Closure.f L S St E Ac l = some (cres L S St E Ac l) := by
  rw [ancepsref07_Closure.f_eq, rnvalid_f _ _ _ _ _ h1 h2, bindD_some]; unfold cres
  cases hv : nok L S St E Ac
  · rfl
  · have hN := nv_of hv
    obtain ⟨n, rfl⟩ : ∃ n : Nat, S = n := ⟨S.toNat, by have := hN.s0; omega⟩
    have he := hN.e
    rw [ifB_not _ _ (by rfl)]
    have := rclos_l5 L n St E Ac (some (memL (clo n E fun s => s ∈ l) 0, (0, ()))) l (fun ho => by
      rw [closed_f hN.nl hN.ei (by omega) (out_false ho) (by omega), bindD_some]) l [] rfl hl rfl
    rw [List.length_nil, Int.ofNat_zero] at this
    rw [this]
    cases out (n : Int) l <;> rfl

/-! the law -/
theorem eqI_l4 : ∀ (suf pre : List Int), (pre ++ suf).length < 1000000 → slices_Equal_int_int.l4 (pre ++ suf) (pre ++ suf) ((pre ++ suf).length : Nat) (pre.length : Nat) = some (true, ())
  | [], pre, h => by rw [slices_Equal_int_int.l4_eq, ifB_not _ _ (lt_end pre)]
  | x :: suf, pre, h => by
    have hl : pre.length < 1000000 := by simp only [List.length_append] at h; omega
    rw [slices_Equal_int_int.l4_eq, ifB_of _ _ (lt_at pre x suf), ixAt_at, bindD_some, bindD_some, ifB_not _ _ (by simp), w_pre pre x (by omega), app_at pre x suf]
    exact eqI_l4 suf (pre ++ [x]) (by rw [← app_at]; exact h)
theorem eqI_self {l : List Int} (h : l.length < 1000000) : slices_Equal_int_int.f l l = some (true, ()) := by
  have := eqI_l4 l [] h
  rw [List.nil_append, List.length_nil, Int.ofNat_zero] at this
  rw [slices_Equal_int_int.f_eq, ifB_not _ _ (by simp), this]
theorem own_f (L S : Int) {St : List Int} {E : List Ed} {Ac : List Int} (h1 : St.length < 1000000) (h2 : E.length < 1000000) (h3 : Ac.length < 1000000) : ancepslaw07_own.f L S St E Ac = some (L, (S, (St, (E, (Ac, ()))))) := by
  rw [ancepslaw07_own.f_eq, clone_f (by omega), bindD_some, clone_f (by omega), bindD_some, api_Edge.f_eq, grow_ok (by omega)]; rfl
theorem few_f (L S : Int) (St : List Int) (E : List Ed) (Ac : List Int) : ∃ b, ancepsref07_Few.f L S St E Ac = some (b, ()) ∧ (b = true → S ≤ 450 ∧ E.length ≤ 300 ∧ St.length ≤ 60 ∧ Ac.length ≤ 60) := by
  rw [ancepsref07_Few.f_eq]
  cases h1 : decide (S ≤ 450)
  · exact ⟨false, rfl, fun h => by cases h⟩
  cases h2 : decide (((E.length : Nat) : Int) ≤ 300)
  · exact ⟨false, rfl, fun h => by cases h⟩
  cases h3 : decide (((St.length : Nat) : Int) ≤ 60)
  · exact ⟨false, rfl, fun h => by cases h⟩
  refine ⟨_, rfl, fun h4 => ?_⟩
  have h1 := of_decide_eq_true h1; have h2 := of_decide_eq_true h2; have h3 := of_decide_eq_true h3; have h4 := of_decide_eq_true h4
  omega
theorem cres_len {L S : Int} {St : List Int} {E : List Ed} {Ac l : List Int} : (cres L S St E Ac l).1.length ≤ 400 := by
  unfold cres
  cases hv : nok L S St E Ac
  · simp
  · have hN := nv_of hv
    cases out S l
    · simp only [cond_true, cond_false]
      have := mem_len (clo S.toNat E fun s => s ∈ l) 0
      rw [clo_len] at this
      have := hN.s4
      omega
    · simp
theorem valid_law (L S : Int) (St : List Int) (E : List Ed) (Ac l w : List Int) : ancepslaw07_NondetValid.f L S St E Ac l w = some (true, ()) := by
  rw [ancepslaw07_NondetValid.f_eq, awake_f]
  simp only [bindD_some, Bool.not_true, ifB_false]
  obtain ⟨b, hf, hb⟩ := few_f L S St E Ac
  rw [hf, bindD_some]
  cases b
  · rfl
  · obtain ⟨b1, b2, b3, b4⟩ := hb rfl
    simp only [Bool.not_true, ifB_false]
    cases h1 : decide (((l.length : Nat) : Int) > 100)
    · cases h2 : decide (((w.length : Nat) : Int) > 40)
      · have h1 := of_decide_eq_false h1; have h2 := of_decide_eq_false h2
        have hcl := cres_len (L := L) (S := S) (St := St) (E := E) (Ac := Ac) (l := l)
        rw [ifB_false, ifB_false, own_f L S (by omega) (by omega) (by omega), clone_f (l := l) (by omega), clone_f (l := w) (by omega)]
        simp only [bindD_some]
        rw [Closure_f _ _ _ _ _ _ (by omega) (by omega) (by omega), rClosure_f _ _ _ _ _ _ (by omega) (by omega) (by omega), accepts_f _ _ _ _ _ _ (by omega) (by omega) (by omega), raccepts_f _ _ _ _ _ _ (by omega) (by omega) (by omega), nvalid_f _ _ _ _ _ (by omega) (by omega), rnvalid_f _ _ _ _ _ (by omega) (by omega)]
        simp only [bindD_some, beq_self_eq_true, ifB_true]
        rw [eqI_self (by omega)]
        rfl
      · rfl
    · rfl
end
end Go.Proofs.C07
