/- Automata with choices: words, and the law of Valid. -/
import Derived.Test.YtmbloefhgkhoaaaP07c
import Derived.Test.YtmbloefhgkhoaaaP07z
set_option linter.unusedVariables false
set_option linter.unusedSimpArgs false
namespace Go.Proofs.C07
open Go Go.Proofs.R
open M (lt_at lt_end w_at app_at)
set_option linter.unusedVariables false
set_option linter.unusedSimpArgs false
set_option maxRecDepth 100000

section
variable {L : Int} {n : Nat} {St : List Int} {E : List Ed} {Ac : List Int}

def accB (Ac : List Int) (B : LB) : Bool := Ac.any fun s => bat B s
theorem acc_l2 {B : LB} (hB : B.length = n) : ∀ (suf pre : List Int), (pre ++ suf).length < 1000000 → (∀ s ∈ suf, 0 ≤ s ∧ s < (n : Int)) →
    ∃ k : Int, slices_IndexFunc_int_int.l2_2 (pre ++ suf) B ((pre ++ suf).length : Nat) (pre.length : Nat) = some (k, ()) ∧ decide (k ≥ 0) = accB suf B
  | [], pre, h, _ => ⟨-1, by rw [slices_IndexFunc_int_int.l2_2_eq, ifB_not _ _ (lt_end pre)], rfl⟩
  | x :: suf, pre, h, hs => by
    have hl : pre.length < 1000000 := by simp only [List.length_append] at h; omega
    obtain ⟨k, h1, h2⟩ := acc_l2 hB suf (pre ++ [x]) (by rw [← app_at]; exact h) (fun s hq => hs s (by simp [hq]))
    rw [slices_IndexFunc_int_int.l2_2_eq, ifB_of _ _ (lt_at pre x suf), ixAt_at, bindD_some, nondet_graph_accepts_1.f_eq, ix_bat hB (hs x (by simp)), bindD_some, bindD_some, w_pre pre x (by omega), app_at pre x suf, h1]
    simp only [accB, List.any_cons]
    cases bat B x
    · exact ⟨k, rfl, by simpa [accB] using h2⟩
    · exact ⟨_, rfl, by simp⟩
theorem gacc_f {B : LB} (hB : B.length = n) (hA : ∀ s ∈ Ac, 0 ≤ s ∧ s < (n : Int)) (hl : Ac.length < 1000000) (G : List (List Ed)) (S : Int) : nondet_graph_accepts.f L S St E Ac G B = some (accB Ac B, ()) := by
  obtain ⟨k, h1, h2⟩ := acc_l2 hB Ac [] hl hA
  rw [List.nil_append, List.length_nil, Int.ofNat_zero] at h1
  rw [nondet_graph_accepts.f_eq, slices_ContainsFunc_int_int.f2_eq, slices_IndexFunc_int_int.f2_eq, h1, bindD_some, h2]; rfl
/-! letters and states that are within -/
def out (hi : Int) (l : List Int) : Bool := l.any fun c => decide (c < 0) || decide (c ≥ hi)
/-! whole words -/
noncomputable def runB (n : Nat) (E : List Ed) (B : LB) (w : List Int) : LB := w.foldl (nxB n E) B
noncomputable def st0 (n : Nat) (E : List Ed) (St : List Int) : LB := clo n E fun s => s ∈ St
noncomputable def nacc (n : Nat) (St : List Int) (E : List Ed) (Ac : List Int) (w : List Int) : Bool := accB Ac (runB n E (st0 n E St) w)
theorem NV.nl (h : NV L (n : Int) St E Ac) : n ≤ 400 := by have := h.s4; omega
theorem NV.ei (h : NV L (n : Int) St E Ac) : EdIn n E := fun x hx => by have := h.ed x hx; omega
theorem NV.stn (h : NV L (n : Int) St E Ac) : St.length ≤ 400 := by have := h.stl; have := h.s4; omega
theorem NV.acn (h : NV L (n : Int) St E Ac) : Ac.length ≤ 400 := by have := h.acl; have := h.s4; omega
/-! closures -/
/-! the law -/
end
end Go.Proofs.C07
