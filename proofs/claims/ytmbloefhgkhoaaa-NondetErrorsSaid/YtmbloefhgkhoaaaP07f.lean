/- Automata with choices: the reference's construction, what it accepts, and the law of Determine. -/
import Derived.Test.YtmbloefhgkhoaaaP07e
set_option linter.unusedVariables false
set_option linter.unusedSimpArgs false
namespace Go.Proofs.C07
open Go Go.Proofs.R
open M (lt_at lt_end w_at app_at LLI)
set_option linter.unusedVariables false
set_option linter.unusedSimpArgs false
set_option maxRecDepth 100000

section
variable {L : Int} {n : Nat} {St : List Int} {E : List Ed} {Ac : List Int}
def mems (fs : List LB) : LLI := fs.map fun B => memL B 0
theorem rdet_l14 (h : NV L (n : Int) St E Ac) {i : Nat} {l : LB} (hi : i < 4611686018427387904) : ∀ (f c : Nat) (fs : List LB) (row : List Int) (N : LLI) (A : LB), c + f = L.toNat → row.length = c → Sets n fs → fs[i]? = some l → N.length < 1000000 → A.length < 1000000 →
    (dRow n E l f c fs row = none ∧ ancepsref07_Determine.l14 (i : Int) (c : Int) L (n : Int) St E Ac 0 0 L 0 (mems fs) row [] [] N A = some errD) ∨
    ∃ r, dRow n E l f c fs row = some r ∧ Sets n r.2 ∧ (∃ e, r.2 = fs ++ e) ∧
      ancepsref07_Determine.l14 (i : Int) (c : Int) L (n : Int) St E Ac 0 0 L 0 (mems fs) row [] [] N A =
        ancepsref07_Determine.l10 ((i + 1 : Nat) : Int) L (n : Int) St E Ac 0 0 L 0 (mems r.2) [] [] (N ++ [r.1]) (A ++ [accB Ac l])
  | 0, c, fs, row, N, A, hc, hr, hs, hl, hN, hA => by
    have h1 := h.l1
    have hll := hs.len l (List.mem_of_getElem? hl)
    have hix : ixAt (mems fs) (i : Int) = some (memL l 0) := by rw [ixAt_nat]; unfold mems; rw [List.getElem?_map, hl]; rfl
    refine .inr ⟨(row, fs), rfl, hs, ⟨[], by simp⟩, ?_⟩
    rw [ancepsref07_Determine.l14_eq, ifB_not _ _ (decide_eq_false (by omega)), grow_one _ (by omega), bindD_some, hix]
    simp only [bindD_some]
    rw [meets_f hll h.nl h.ac (by have := h.acn; omega), bindD_some, grow_one _ (by omega), bindD_some, w64_succ (by omega)]
  | f + 1, c, fs, row, N, A, hc, hr, hs, hl, hN, hA => by
    have h1 := h.l1
    have h8 := h.l8
    have he := h.e
    have hll := hs.len l (List.mem_of_getElem? hl)
    have hn := h.nl
    have hd : (nxB n E l (c : Int)).length = n := nxB_len _ _
    have hfl := hs.n4
    have hml : (mems fs).length = fs.length := by simp [mems]
    have ih := fun fs v hs (hl : fs[i]? = some l) => rdet_l14 h hi f (c + 1) fs (row ++ [v]) N A (by omega) (by simp [hr]) hs hl hN hA
    have hix : ixAt (mems fs) (i : Int) = some (memL l 0) := by rw [ixAt_nat]; unfold mems; rw [List.getElem?_map, hl]; rfl
    have hap : mems fs ++ [memL (nxB n E l (c : Int)) 0] = mems (fs ++ [nxB n E l (c : Int)]) := by simp [mems]
    rw [ancepsref07_Determine.l14_eq, ifB_of _ _ (decide_eq_true (by omega)), hix]
    simp only [bindD_some]
    rw [rnext_f hn h.ei (by omega) hll, bindD_some]
    simp only
    rw [mem_pos hd, w64_succ (by omega)]
    have hfind := find_f hd (by omega) hs.len (by omega : fs.length < 1000000)
    have hfind : ancepsref07_find.f (mems fs) (memL (nxB n E l (c : Int)) 0) = _ := hfind
    unfold dRow
    by_cases hh : hasT (nxB n E l (c : Int)) = true
    · rw [if_pos hh, hh]
      simp only [ifB_true]
      rw [hfind, bindD_some]
      simp only
      by_cases hmem : nxB n E l (c : Int) ∈ fs
      · rw [if_pos hmem, if_pos hmem, ifB_not _ _ (decide_eq_false (by omega)), grow_one _ (by omega), bindD_some]
        exact ih fs _ hs hl
      · rw [if_neg hmem, if_neg hmem, ifB_of _ _ (by rfl), grow_one _ (by omega), bindD_some]
        by_cases h4 : fs.length = 400
        · rw [if_pos h4, ifB_of _ _ (decide_eq_true (by simp only [List.length_append, List.length_singleton]; omega))]
          exact .inl ⟨rfl, rfl⟩
        · rw [if_neg h4, ifB_not _ _ (decide_eq_false (by simp only [List.length_append, List.length_singleton]; omega)), grow_one _ (by omega), bindD_some, hap, hml]
          have hli : i < fs.length := (List.getElem?_eq_some_iff.1 hl).1
          rcases ih (fs ++ [nxB n E l (c : Int)]) ((fs.length : Nat) : Int) (hs.put hmem hd h4) (by rw [List.getElem?_append_left hli]; exact hl) with q | ⟨r, q1, q3, ⟨e, q4⟩, q5⟩
          · exact .inl q
          · exact .inr ⟨r, q1, q3, ⟨nxB n E l (c : Int) :: e, by rw [q4, List.append_assoc]; rfl⟩, q5⟩
    · rw [if_neg hh]
      have hh' : hasT (nxB n E l (c : Int)) = false := by simpa using hh
      rw [hh']
      simp only [ifB_false]
      rw [grow_one _ (by omega), bindD_some]
      exact ih fs _ hs hl
theorem rdet_l10 (h : NV L (n : Int) St E Ac) : ∀ (f i : Nat) (fs : List LB) (N : LLI) (A : LB), Sets n fs → i ≤ fs.length → 400 < i + f → N.length = i → A.length = i →
    ancepsref07_Determine.l10 (i : Int) L (n : Int) St E Ac 0 0 L 0 (mems fs) [] [] N A = some (dVal L (dAll L.toNat n E Ac f i fs N A))
  | 0, i, fs, N, A, hs, hi, hf, hN, hA => by have := hs.n4; omega
  | f + 1, i, fs, N, A, hs, hi, hf, hN, hA => by
    have h4 := hs.n4
    have h1 := h.l1
    have h8 := h.l8
    have hml : (mems fs).length = fs.length := by simp [mems]
    rw [ancepsref07_Determine.l10_eq]
    unfold dAll
    cases hx : fs[i]? with
    | none =>
      have : fs.length ≤ i := List.getElem?_eq_none_iff.1 hx
      rw [ifB_not _ _ (decide_eq_false (by omega)), M.rminimalF]
      rfl
    | some l =>
      have hil := (List.getElem?_eq_some_iff.1 hx).1
      rw [ifB_of _ _ (decide_eq_true (by omega))]
      rcases rdet_l14 h (i := i) (l := l) (by omega) L.toNat 0 fs [] N A (by omega) rfl hs hx (by omega) (by omega) with ⟨q1, q2⟩ | ⟨r, q1, q3, ⟨e, q4⟩, q5⟩
      · rw [show ((0 : Nat) : Int) = 0 from rfl] at q2
        rw [q2]; simp only [q1]; rfl
      · rw [show ((0 : Nat) : Int) = 0 from rfl] at q5
        rw [q5]; simp only [q1]
        exact rdet_l10 h f (i + 1) r.2 _ _ q3 (by rw [q4]; simp; omega) (by omega) (by simp [hN]) (by simp [hA])
theorem rdetermine_f (L S : Int) (St : List Int) (E : List Ed) (Ac : List Int) (h1 : St.length < 1000000) (h2 : Ac.length < 1000000) : ancepsref07_Determine.f L S St E Ac = some (detR L S St E Ac) := by
  rw [ancepsref07_Determine.f_eq, rnvalid_f _ _ _ _ _ h1 h2, bindD_some]; unfold detR
  cases hv : nok L S St E Ac
  · rfl
  · have hN := nv_of hv
    obtain ⟨n, rfl⟩ : ∃ n : Nat, S = n := ⟨S.toNat, by have := hN.s0; omega⟩
    have he := hN.e
    have hn := hN.nl
    rw [ifB_not _ _ (by rfl)]
    cases St with
    | nil =>
      rw [ifB_not _ _ (by rfl), ancepsref07_Determine.l10_eq, ifB_not _ _ (by rfl), M.rminimalF]; rfl
    | cons s St =>
      rw [ifB_of _ _ (decide_eq_true (by simp only [List.length_cons]; omega)), closed_f hn hN.ei (by omega) hN.st (by have := hN.stn; omega), bindD_some, grow_ok (by simp), bindD_some]
      have hs : Sets n [st0 n E (s :: St)] := ⟨by simp, fun B hB => by rw [List.mem_singleton.1 hB]; exact clo_len _ _ _, by simp⟩
      exact rdet_l10 hN 401 0 [st0 n E (s :: St)] [] [] hs (by simp) (by omega) rfl rfl

/-! what the construction makes -/
def DEnt (n : Nat) (E : List Ed) (fs : List LB) (l : LB) (c : Nat) (t : Int) : Prop :=
  (hasT (nxB n E l (c : Int)) = false ∧ t = -1) ∨ (0 ≤ t ∧ fs[t.toNat]? = some (nxB n E l (c : Int)))
theorem DEnt.app {fs e : List LB} {l : LB} {c : Nat} {t : Int} (h : DEnt n E fs l c t) : DEnt n E (fs ++ e) l c t := by
  refine h.imp id fun ⟨h1, h2⟩ => ⟨h1, ?_⟩
  rw [List.getElem?_append_left (List.getElem?_eq_some_iff.1 h2).1]; exact h2
theorem DEnt.rng {fs : List LB} {l : LB} {c : Nat} {t : Int} (h : DEnt n E fs l c t) : -1 ≤ t ∧ t < fs.length := by
  rcases h with ⟨_, rfl⟩ | ⟨h1, h2⟩
  · omega
  · have := (List.getElem?_eq_some_iff.1 h2).1; omega
def DRow (n : Nat) (E : List Ed) (fs : List LB) (l : LB) (row : List Int) : Prop := ∀ k t, row[k]? = some t → DEnt n E fs l k t
theorem DRow.app {fs e : List LB} {l : LB} {row : List Int} (h : DRow n E fs l row) : DRow n E (fs ++ e) l row := fun k t hk => (h k t hk).app
theorem DRow.snoc {fs : List LB} {l : LB} {row : List Int} {v : Int} (h : DRow n E fs l row) (hv : DEnt n E fs l row.length v) : DRow n E fs l (row ++ [v]) := by
  intro k t hk
  rw [List.getElem?_append] at hk
  split at hk
  · exact h k t hk
  · rename_i hkk
    have : k = row.length := by
      cases hq : k - row.length with
      | zero => omega
      | succ j => rw [hq] at hk; simp at hk
    subst this
    simp at hk; subst hk; exact hv
theorem dRow_facts {l : LB} : ∀ (f c : Nat) (fs : List LB) (row : List Int) (r : List Int × List LB), dRow n E l f c fs row = some r → row.length = c → Sets n fs → DRow n E fs l row →
    (∃ e, r.2 = fs ++ e) ∧ Sets n r.2 ∧ r.1.length = c + f ∧ DRow n E r.2 l r.1
  | 0, c, fs, row, r, h, hr, hs, hd => by
    unfold dRow at h
    simp only [Option.some.injEq] at h
    subst h
    exact ⟨⟨[], by simp⟩, hs, by simp [hr], hd⟩
  | f + 1, c, fs, row, r, h, hr, hs, hd => by
    unfold dRow at h
    split at h
    · rename_i hh
      split at h
      · rename_i hm
        obtain ⟨h1, h2, h3, h4⟩ := dRow_facts f (c + 1) fs _ r h (by simp [hr]) hs (hd.snoc (by
          rw [hr]
          have := M.place_mem hm
          exact .inr ⟨by omega, by rw [Int.toNat_natCast]; exact this.1⟩))
        exact ⟨h1, h2, by omega, h4⟩
      · rename_i hm
        split at h
        · cases h
        · rename_i h4
          obtain ⟨⟨e, h1⟩, h2, h3, h5⟩ := dRow_facts f (c + 1) _ _ r h (by simp [hr]) (hs.put hm (nxB_len _ _) h4) (hd.app.snoc (by
            rw [hr]
            exact .inr ⟨by omega, by rw [Int.toNat_natCast]; simp⟩))
          exact ⟨⟨_, by rw [h1, List.append_assoc]⟩, h2, by omega, h5⟩
    · rename_i hh
      obtain ⟨h1, h2, h3, h4⟩ := dRow_facts f (c + 1) fs _ r h (by simp [hr]) hs (hd.snoc (by
        rw [hr]; exact .inl ⟨by simpa using hh, rfl⟩))
      exact ⟨h1, h2, by omega, h4⟩
/-- rows told so far -/
def DN (n : Nat) (E : List Ed) (Ac : List Int) (L : Nat) (fs : List LB) (N : LLI) (A : LB) : Prop :=
  N.length = A.length ∧ ∀ (j : Nat) (r : List Int) (l : LB), N[j]? = some r → fs[j]? = some l → r.length = L ∧ DRow n E fs l r ∧ A[j]? = some (accB Ac l)
theorem dAll_facts {L : Nat} : ∀ (f i : Nat) (fs : List LB) (N : LLI) (A : LB) (r : List LB × LLI × LB), dAll L n E Ac f i fs N A = some r → N.length = i → i ≤ fs.length → 400 < i + f → Sets n fs → DN n E Ac L fs N A →
    (∃ e, r.1 = fs ++ e) ∧ Sets n r.1 ∧ r.2.1.length = r.1.length ∧ DN n E Ac L r.1 r.2.1 r.2.2
  | 0, i, fs, N, A, r, h, hN, hi, hf, hs, hd => by have := hs.n4; omega
  | f + 1, i, fs, N, A, r, h, hN, hi, hf, hs, hd => by
    unfold dAll at h
    cases hx : fs[i]? with
    | none =>
      rw [hx] at h
      simp only [Option.some.injEq] at h
      subst h
      have : fs.length ≤ i := List.getElem?_eq_none_iff.1 hx
      exact ⟨⟨[], by simp⟩, hs, by simp only; omega, hd⟩
    | some l =>
      rw [hx] at h
      simp only at h
      have hil := (List.getElem?_eq_some_iff.1 hx).1
      cases hr : dRow n E l L 0 fs [] with
      | none => rw [hr] at h; cases h
      | some q =>
        rw [hr] at h
        obtain ⟨⟨e, g1⟩, g2, g3, g4⟩ := dRow_facts L 0 fs [] q hr rfl hs (fun k t hk => by simp at hk)
        obtain ⟨⟨e2, k1⟩, k2, k3, k4⟩ := dAll_facts f (i + 1) q.2 _ _ r h (by simp [hN]) (by rw [g1]; simp; omega) (by omega) g2 (by
          refine ⟨by simp [hd.1], fun j row x hj hx2 => ?_⟩
          rw [List.getElem?_append] at hj
          split at hj
          · rename_i hjl
            have hfj : fs[j]? = some x := by
              rw [g1, List.getElem?_append_left (by omega)] at hx2; exact hx2
            obtain ⟨a, b, c⟩ := hd.2 j row x hj hfj
            refine ⟨a, by rw [g1]; exact b.app, ?_⟩
            rw [List.getElem?_append_left (by rw [← hd.1]; exact hjl)]; exact c
          · rename_i hjl
            have : j = N.length := by
              cases hq : j - N.length with
              | zero => omega
              | succ m => rw [hq] at hj; simp at hj
            subst this
            simp at hj; subst hj
            have : x = l := by
              rw [g1, hN, List.getElem?_append_left hil, hx] at hx2; exact (Option.some.inj hx2).symm
            subst this
            exact ⟨by omega, g4, by rw [hd.1]; simp⟩)
        exact ⟨⟨e ++ e2, by rw [k1, g1, List.append_assoc]⟩, k2, k3, k4⟩
end
end Go.Proofs.C07
