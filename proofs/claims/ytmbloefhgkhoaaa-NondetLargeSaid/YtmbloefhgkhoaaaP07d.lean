/- Automata with choices: words, and the law of Valid. -/
import Derived.Test.YtmbloefhgkhoaaaP07c
import Derived.Test.YtmbloefhgkhoaaaP07z
set_option linter.unusedVariables false
set_option linter.unusedSimpArgs false
namespace Go.Proofs.C07
open Go Go.Proofs.R
open M (lt_at lt_end w_at app_at)
set_option linter.unusedVariables false
set_option linter.unusedSimpArgs false
set_option maxRecDepth 100000

section
variable {L : Int} {n : Nat} {St : List Int} {E : List Ed} {Ac : List Int}

def accB (Ac : List Int) (B : LB) : Bool := Ac.any fun s => bat B s
theorem acc_l2 {B : LB} (hB : B.length = n) : ∀ (suf pre : List Int), (pre ++ suf).length < 1000000 → (∀ s ∈ suf, 0 ≤ s ∧ s < (n : Int)) →
    ∃ k : Int, slices_IndexFunc_int_int.l2_2 (pre ++ suf) B ((pre ++ suf).length : Nat) (pre.length : Nat) = some (k, ()) ∧ decide (k ≥ 0) = accB suf B
  | [], pre, h, _ => ⟨-1, by rw [slices_IndexFunc_int_int.l2_2_eq, ifB_not _ _ (lt_end pre)], rfl⟩
  | x :: suf, pre, h, hs => by
    have hl : pre.length < 1000000 := by simp only [List.length_append] at h; omega
    obtain ⟨k, h1, h2⟩ := acc_l2 hB suf (pre ++ [x]) (by rw [← app_at]; exact h) (fun s hq => hs s (by simp [hq]))
    rw [slices_IndexFunc_int_int.l2_2_eq, ifB_of _ _ (lt_at pre x suf), ixAt_at, bindD_some, nondet_graph_accepts_1.f_eq, ix_bat hB (hs x (by simp)), bindD_some, bindD_some, w_pre pre x (by omega), app_at pre x suf, h1]
    simp only [accB, List.any_cons]
    cases bat B x
    · exact ⟨k, rfl, by simpa [accB] using h2⟩
    · exact ⟨_, rfl, by simp⟩
theorem gacc_f {B : LB} (hB : B.length = n) (hA : ∀ s ∈ Ac, 0 ≤ s ∧ s < (n : Int)) (hl : Ac.length < 1000000) (G : List (List Ed)) (S : Int) : nondet_graph_accepts.f L S St E Ac G B = some (accB Ac B, ()) := by
  obtain ⟨k, h1, h2⟩ := acc_l2 hB Ac [] hl hA
  rw [List.nil_append, List.length_nil, Int.ofNat_zero] at h1
  rw [nondet_graph_accepts.f_eq, slices_ContainsFunc_int_int.f2_eq, slices_IndexFunc_int_int.f2_eq, h1, bindD_some, h2]; rfl
/-! letters and states that are within -/
def out (hi : Int) (l : List Int) : Bool := l.any fun c => decide (c < 0) || decide (c ≥ hi)
theorem outA_l2 (L S : Int) (St : List Int) (E : List Ed) (Ac : List Int) : ∀ (suf pre : List Int), (pre ++ suf).length < 1000000 →
    ∃ k : Int, slices_IndexFunc_int_int.l2 (pre ++ suf) L S St E Ac ((pre ++ suf).length : Nat) (pre.length : Nat) = some (k, ()) ∧ decide (k ≥ 0) = out L suf
  | [], pre, h => ⟨-1, by rw [slices_IndexFunc_int_int.l2_eq, ifB_not _ _ (lt_end pre)], rfl⟩
  | x :: suf, pre, h => by
    have hl : pre.length < 1000000 := by simp only [List.length_append] at h; omega
    obtain ⟨k, h1, h2⟩ := outA_l2 L S St E Ac suf (pre ++ [x]) (by rw [← app_at]; exact h)
    rw [slices_IndexFunc_int_int.l2_eq, ifB_of _ _ (lt_at pre x suf), ixAt_at, bindD_some, nondet_Accepts_1.f_eq, w_pre pre x (by omega), app_at pre x suf, h1]
    simp only [out, List.any_cons]
    cases decide (x < 0) <;> cases decide (x ≥ L)
    · exact ⟨k, rfl, by simpa [out] using h2⟩
    · exact ⟨_, rfl, by simp⟩
    · exact ⟨_, rfl, by simp⟩
    · exact ⟨_, rfl, by simp⟩
theorem outA_f (L S : Int) (St : List Int) (E : List Ed) (Ac : List Int) {w : List Int} (h : w.length < 1000000) : slices_ContainsFunc_int_int.f w L S St E Ac = some (out L w, ()) := by
  obtain ⟨k, h1, h2⟩ := outA_l2 L S St E Ac w [] h
  rw [List.nil_append, List.length_nil, Int.ofNat_zero] at h1
  rw [slices_ContainsFunc_int_int.f_eq, slices_IndexFunc_int_int.f_eq, h1, bindD_some, h2]
/-! whole words -/
noncomputable def runB (n : Nat) (E : List Ed) (B : LB) (w : List Int) : LB := w.foldl (nxB n E) B
noncomputable def st0 (n : Nat) (E : List Ed) (St : List Int) : LB := clo n E fun s => s ∈ St
noncomputable def nacc (n : Nat) (St : List Int) (E : List Ed) (Ac : List Int) (w : List Int) : Bool := accB Ac (runB n E (st0 n E St) w)
theorem NV.nl (h : NV L (n : Int) St E Ac) : n ≤ 400 := by have := h.s4; omega
theorem NV.ei (h : NV L (n : Int) St E Ac) : EdIn n E := fun x hx => by have := h.ed x hx; omega
theorem NV.stn (h : NV L (n : Int) St E Ac) : St.length ≤ 400 := by have := h.stl; have := h.s4; omega
theorem NV.acn (h : NV L (n : Int) St E Ac) : Ac.length ≤ 400 := by have := h.acl; have := h.s4; omega
theorem word_l9 (h : NV L (n : Int) St E Ac) : ∀ (suf pre : List Int) (B : LB), B.length = n → (pre ++ suf).length < 1000000 →
    nondet_Accepts.l9 (pre ++ suf) ((pre ++ suf).length : Nat) (pre.length : Nat) L (n : Int) St E Ac (gr n E) B = some (accB Ac (runB n E B suf), (0, ()))
  | [], pre, B, hB, hl => by
    rw [nondet_Accepts.l9_eq, ifB_not _ _ (lt_end pre), gacc_f hB h.ac (by have := h.acn; omega)]; rfl
  | c :: suf, pre, B, hB, hl => by
    have hp : pre.length < 1000000 := by simp only [List.length_append] at hl; omega
    rw [nondet_Accepts.l9_eq, ifB_of _ _ (lt_at pre c suf), ixAt_at, bindD_some, step_f h.nl h.ei h.e hB, bindD_some, w_pre pre c (by omega), app_at pre c suf]
    exact word_l9 h suf (pre ++ [c]) _ (nxB_len _ _) (by rw [← app_at]; exact hl)
noncomputable def nres (L S : Int) (St : List Int) (E : List Ed) (Ac w : List Int) : Bool × Int × Unit :=
  bif nok L S St E Ac then (bif out L w then (false, (6, ())) else (nacc S.toNat St E Ac w, (0, ()))) else (false, (1, ()))
theorem accepts_f (L S : Int) (St : List Int) (E : List Ed) (Ac w : List Int) (h1 : St.length < 1000000) (h2 : Ac.length < 1000000) (hw : w.length < 1000000) : nondet_Accepts.f L S St E Ac w = some (nres L S St E Ac w) := by
  rw [nondet_Accepts.f_eq, nvalid_f _ _ _ _ _ h1 h2, bindD_some]; unfold nres
  cases hv : nok L S St E Ac
  · rfl
  · have hN := nv_of hv
    obtain ⟨n, rfl⟩ : ∃ n : Nat, S = n := ⟨S.toNat, by have := hN.s0; omega⟩
    have he := hN.e
    rw [ifB_not _ _ (by rfl), outA_f _ _ _ _ _ hw, bindD_some]
    cases ho : out L w
    · rw [ifB_false, open_f hN.nl (by omega) hN.ei, bindD_some]
      simp only
      rw [closure_f hN.nl hN.ei (by omega) hN.st (by have := hN.stn; omega), bindD_some]
      have := word_l9 hN w [] (clo n E fun s => s ∈ St) (clo_len _ _ _) hw
      rw [List.nil_append, List.length_nil, Int.ofNat_zero] at this
      exact this
    · rfl
/-! closures -/
/-! the law -/
end
end Go.Proofs.C07
