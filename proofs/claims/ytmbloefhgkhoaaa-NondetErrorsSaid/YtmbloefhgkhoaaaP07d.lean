/- Automata with choices: words, and the law of Valid. -/
import Derived.Test.YtmbloefhgkhoaaaP07c
import Derived.Test.YtmbloefhgkhoaaaP07z
set_option linter.unusedVariables false
set_option linter.unusedSimpArgs false
namespace Go.Proofs.C07
open Go Go.Proofs.R
open M (lt_at lt_end w_at app_at)
set_option linter.unusedVariables false
set_option linter.unusedSimpArgs false
set_option maxRecDepth 100000

section
variable {L : Int} {n : Nat} {St : List Int} {E : List Ed} {Ac : List Int}

def accB (Ac : List Int) (B : LB) : Bool := Ac.any fun s => bat B s
theorem meets_l5 (l A : List Int) (i : Nat) {x : Int} (hx : ixAt l (i : Int) = some x) : ∀ (suf pre : List Int), pre ++ suf = A → A.length < 1000000 →
    ancepsref07_meets.l5 l A (i : Int) (pre.length : Nat) = bif suf.any (fun y => x == y) then some (true, ()) else ancepsref07_meets.l2 l A (IntKind.i64.wrap ((i : Int) + 1))
  | [], pre, hq, h => by
    have := lt_end pre
    rw [hq] at this
    rw [ancepsref07_meets.l5_eq, ifB_not _ _ this]; rfl
  | y :: suf, pre, hq, h => by
    have hl : pre.length < 1000000 := by rw [← hq] at h; simp only [List.length_append] at h; omega
    have hlt := lt_at pre y suf
    have hix := ixAt_at pre y suf
    rw [hq] at hlt hix
    rw [ancepsref07_meets.l5_eq, ifB_of _ _ hlt, hx, bindD_some, hix, bindD_some, w_pre pre y (by omega), meets_l5 l A i hx suf (pre ++ [y]) (by rw [← app_at]; exact hq) h]
    simp only [List.any_cons]
    cases (x == y) <;> rfl
theorem meets_l2 (A : List Int) (hA : A.length < 1000000) : ∀ (suf pre : List Int), (pre ++ suf).length < 1000000 → ancepsref07_meets.l2 (pre ++ suf) A (pre.length : Nat) = some (suf.any (fun x => A.any fun y => x == y), ())
  | [], pre, h => by rw [ancepsref07_meets.l2_eq, ifB_not _ _ (lt_end pre)]; rfl
  | x :: suf, pre, h => by
    have hl : pre.length < 1000000 := by simp only [List.length_append] at h; omega
    have h5 := meets_l5 (pre ++ x :: suf) A pre.length (ixAt_at pre x suf) A [] rfl hA
    rw [List.length_nil, Int.ofNat_zero] at h5
    rw [ancepsref07_meets.l2_eq, ifB_of _ _ (lt_at pre x suf), h5, w_pre pre x (by omega), app_at pre x suf, meets_l2 A hA suf (pre ++ [x]) (by rw [← app_at]; exact h)]
    simp only [List.any_cons]
    cases A.any fun y => x == y <;> rfl
theorem meets_f {B : LB} (hB : B.length = n) (hn : n ≤ 400) (hA : ∀ s ∈ Ac, 0 ≤ s ∧ s < (n : Int)) (hl : Ac.length < 1000000) : ancepsref07_meets.f (memL B 0) Ac = some (accB Ac B, ()) := by
  have hml := mem_len B 0
  have := meets_l2 Ac hl (memL B 0) [] (by rw [List.nil_append]; omega)
  rw [List.nil_append, List.length_nil, Int.ofNat_zero] at this
  rw [ancepsref07_meets.f_eq, this]
  congr 2
  unfold accB
  rw [Bool.eq_iff_iff]
  simp only [List.any_eq_true, beq_iff_eq]
  constructor
  · rintro ⟨x, h1, y, h2, rfl⟩; exact ⟨x, h2, ((mem_bat hB x).1 h1).2⟩
  · rintro ⟨y, h1, h2⟩; exact ⟨y, (mem_bat hB y).2 ⟨hA y h1, h2⟩, y, h1, rfl⟩

/-! letters and states that are within -/
def out (hi : Int) (l : List Int) : Bool := l.any fun c => decide (c < 0) || decide (c ≥ hi)
/-! whole words -/
noncomputable def runB (n : Nat) (E : List Ed) (B : LB) (w : List Int) : LB := w.foldl (nxB n E) B
noncomputable def st0 (n : Nat) (E : List Ed) (St : List Int) : LB := clo n E fun s => s ∈ St
noncomputable def nacc (n : Nat) (St : List Int) (E : List Ed) (Ac : List Int) (w : List Int) : Bool := accB Ac (runB n E (st0 n E St) w)
theorem NV.nl (h : NV L (n : Int) St E Ac) : n ≤ 400 := by have := h.s4; omega
theorem NV.ei (h : NV L (n : Int) St E Ac) : EdIn n E := fun x hx => by have := h.ed x hx; omega
theorem NV.stn (h : NV L (n : Int) St E Ac) : St.length ≤ 400 := by have := h.stl; have := h.s4; omega
theorem NV.acn (h : NV L (n : Int) St E Ac) : Ac.length ≤ 400 := by have := h.acl; have := h.s4; omega
/-! closures -/
/-! the law -/
theorem own_f (L S : Int) {St : List Int} {E : List Ed} {Ac : List Int} (h1 : St.length < 1000000) (h2 : E.length < 1000000) (h3 : Ac.length < 1000000) : ancepslaw07_own.f L S St E Ac = some (L, (S, (St, (E, (Ac, ()))))) := by
  rw [ancepslaw07_own.f_eq, clone_f (by omega), bindD_some, clone_f (by omega), bindD_some, api_Edge.f_eq, grow_ok (by omega)]; rfl
theorem few_f (L S : Int) (St : List Int) (E : List Ed) (Ac : List Int) : ∃ b, ancepsref07_Few.f L S St E Ac = some (b, ()) ∧ (b = true → S ≤ 450 ∧ E.length ≤ 300 ∧ St.length ≤ 60 ∧ Ac.length ≤ 60) := by
  rw [ancepsref07_Few.f_eq]
  cases h1 : decide (S ≤ 450)
  · exact ⟨false, rfl, fun h => by cases h⟩
  cases h2 : decide (((E.length : Nat) : Int) ≤ 300)
  · exact ⟨false, rfl, fun h => by cases h⟩
  cases h3 : decide (((St.length : Nat) : Int) ≤ 60)
  · exact ⟨false, rfl, fun h => by cases h⟩
  refine ⟨_, rfl, fun h4 => ?_⟩
  have h1 := of_decide_eq_true h1; have h2 := of_decide_eq_true h2; have h3 := of_decide_eq_true h3; have h4 := of_decide_eq_true h4
  omega
end
end Go.Proofs.C07
