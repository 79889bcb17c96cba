/- Automata with choices: the reference's construction, what it accepts, and the law of Determine. -/
import Derived.Test.YtmbloefhgkhoaaaP07e
set_option linter.unusedVariables false
set_option linter.unusedSimpArgs false
namespace Go.Proofs.C07
open Go Go.Proofs.R
open M (lt_at lt_end w_at app_at LLI)
set_option linter.unusedVariables false
set_option linter.unusedSimpArgs false
set_option maxRecDepth 100000

section
variable {L : Int} {n : Nat} {St : List Int} {E : List Ed} {Ac : List Int}
/-! what the construction makes -/
def DEnt (n : Nat) (E : List Ed) (fs : List LB) (l : LB) (c : Nat) (t : Int) : Prop :=
  (hasT (nxB n E l (c : Int)) = false ∧ t = -1) ∨ (0 ≤ t ∧ fs[t.toNat]? = some (nxB n E l (c : Int)))
theorem DEnt.app {fs e : List LB} {l : LB} {c : Nat} {t : Int} (h : DEnt n E fs l c t) : DEnt n E (fs ++ e) l c t := by
  refine h.imp id fun ⟨h1, h2⟩ => ⟨h1, ?_⟩
  rw [List.getElem?_append_left (List.getElem?_eq_some_iff.1 h2).1]; exact h2
theorem DEnt.rng {fs : List LB} {l : LB} {c : Nat} {t : Int} (h : DEnt n E fs l c t) : -1 ≤ t ∧ t < fs.length := by
  rcases h with ⟨_, rfl⟩ | ⟨h1, h2⟩
  · omega
  · have := (List.getElem?_eq_some_iff.1 h2).1; omega
def DRow (n : Nat) (E : List Ed) (fs : List LB) (l : LB) (row : List Int) : Prop := ∀ k t, row[k]? = some t → DEnt n E fs l k t
theorem DRow.app {fs e : List LB} {l : LB} {row : List Int} (h : DRow n E fs l row) : DRow n E (fs ++ e) l row := fun k t hk => (h k t hk).app
theorem DRow.snoc {fs : List LB} {l : LB} {row : List Int} {v : Int} (h : DRow n E fs l row) (hv : DEnt n E fs l row.length v) : DRow n E fs l (row ++ [v]) := by
  intro k t hk
  rw [List.getElem?_append] at hk
  split at hk
  · exact h k t hk
  · rename_i hkk
    have : k = row.length := by
      cases hq : k - row.length with
      | zero => omega
      | succ j => rw [hq] at hk; simp at hk
    subst this
    simp at hk; subst hk; exact hv
theorem dRow_facts {l : LB} : ∀ (f c : Nat) (fs : List LB) (row : List Int) (r : List Int × List LB), dRow n E l f c fs row = some r → row.length = c → Sets n fs → DRow n E fs l row →
    (∃ e, r.2 = fs ++ e) ∧ Sets n r.2 ∧ r.1.length = c + f ∧ DRow n E r.2 l r.1
  | 0, c, fs, row, r, h, hr, hs, hd => by
    unfold dRow at h
    simp only [Option.some.injEq] at h
    subst h
    exact ⟨⟨[], by simp⟩, hs, by simp [hr], hd⟩
  | f + 1, c, fs, row, r, h, hr, hs, hd => by
    unfold dRow at h
    split at h
    · rename_i hh
      split at h
      · rename_i hm
        obtain ⟨h1, h2, h3, h4⟩ := dRow_facts f (c + 1) fs _ r h (by simp [hr]) hs (hd.snoc (by
          rw [hr]
          have := M.place_mem hm
          exact .inr ⟨by omega, by rw [Int.toNat_natCast]; exact this.1⟩))
        exact ⟨h1, h2, by omega, h4⟩
      · rename_i hm
        split at h
        · cases h
        · rename_i h4
          obtain ⟨⟨e, h1⟩, h2, h3, h5⟩ := dRow_facts f (c + 1) _ _ r h (by simp [hr]) (hs.put hm (nxB_len _ _) h4) (hd.app.snoc (by
            rw [hr]
            exact .inr ⟨by omega, by rw [Int.toNat_natCast]; simp⟩))
          exact ⟨⟨_, by rw [h1, List.append_assoc]⟩, h2, by omega, h5⟩
    · rename_i hh
      obtain ⟨h1, h2, h3, h4⟩ := dRow_facts f (c + 1) fs _ r h (by simp [hr]) hs (hd.snoc (by
        rw [hr]; exact .inl ⟨by simpa using hh, rfl⟩))
      exact ⟨h1, h2, by omega, h4⟩
/-- rows told so far -/
def DN (n : Nat) (E : List Ed) (Ac : List Int) (L : Nat) (fs : List LB) (N : LLI) (A : LB) : Prop :=
  N.length = A.length ∧ ∀ (j : Nat) (r : List Int) (l : LB), N[j]? = some r → fs[j]? = some l → r.length = L ∧ DRow n E fs l r ∧ A[j]? = some (accB Ac l)
theorem dAll_facts {L : Nat} : ∀ (f i : Nat) (fs : List LB) (N : LLI) (A : LB) (r : List LB × LLI × LB), dAll L n E Ac f i fs N A = some r → N.length = i → i ≤ fs.length → 400 < i + f → Sets n fs → DN n E Ac L fs N A →
    (∃ e, r.1 = fs ++ e) ∧ Sets n r.1 ∧ r.2.1.length = r.1.length ∧ DN n E Ac L r.1 r.2.1 r.2.2
  | 0, i, fs, N, A, r, h, hN, hi, hf, hs, hd => by have := hs.n4; omega
  | f + 1, i, fs, N, A, r, h, hN, hi, hf, hs, hd => by
    unfold dAll at h
    cases hx : fs[i]? with
    | none =>
      rw [hx] at h
      simp only [Option.some.injEq] at h
      subst h
      have : fs.length ≤ i := List.getElem?_eq_none_iff.1 hx
      exact ⟨⟨[], by simp⟩, hs, by simp only; omega, hd⟩
    | some l =>
      rw [hx] at h
      simp only at h
      have hil := (List.getElem?_eq_some_iff.1 hx).1
      cases hr : dRow n E l L 0 fs [] with
      | none => rw [hr] at h; cases h
      | some q =>
        rw [hr] at h
        obtain ⟨⟨e, g1⟩, g2, g3, g4⟩ := dRow_facts L 0 fs [] q hr rfl hs (fun k t hk => by simp at hk)
        obtain ⟨⟨e2, k1⟩, k2, k3, k4⟩ := dAll_facts f (i + 1) q.2 _ _ r h (by simp [hN]) (by rw [g1]; simp; omega) (by omega) g2 (by
          refine ⟨by simp [hd.1], fun j row x hj hx2 => ?_⟩
          rw [List.getElem?_append] at hj
          split at hj
          · rename_i hjl
            have hfj : fs[j]? = some x := by
              rw [g1, List.getElem?_append_left (by omega)] at hx2; exact hx2
            obtain ⟨a, b, c⟩ := hd.2 j row x hj hfj
            refine ⟨a, by rw [g1]; exact b.app, ?_⟩
            rw [List.getElem?_append_left (by rw [← hd.1]; exact hjl)]; exact c
          · rename_i hjl
            have : j = N.length := by
              cases hq : j - N.length with
              | zero => omega
              | succ m => rw [hq] at hj; simp at hj
            subst this
            simp at hj; subst hj
            have : x = l := by
              rw [g1, hN, List.getElem?_append_left hil, hx] at hx2; exact (Option.some.inj hx2).symm
            subst this
            exact ⟨by omega, g4, by rw [hd.1]; simp⟩)
        exact ⟨⟨e ++ e2, by rw [k1, g1, List.append_assoc]⟩, k2, k3, k4⟩
end
end Go.Proofs.C07
