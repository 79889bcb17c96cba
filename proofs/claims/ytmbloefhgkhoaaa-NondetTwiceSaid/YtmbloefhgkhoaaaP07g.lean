/- Automata with choices: the language of the construction, and the law of Determine. -/
import Derived.Test.YtmbloefhgkhoaaaP07f
set_option linter.unusedVariables false
set_option linter.unusedSimpArgs false
namespace Go.Proofs.C07
open Go Go.Proofs.R
open M (lt_at lt_end w_at app_at LLI)
set_option linter.unusedVariables false
set_option linter.unusedSimpArgs false
set_option maxRecDepth 100000

/-! what the reference's automata accept -/
theorem fits_u8 {n : Int} (h : (Lit.int .u8 n).wf = true) : 0 ≤ n ∧ n < 256 := by
  simp only [Lit.wf, Bool.and_eq_true, decide_eq_true_eq] at h
  have h1 : IntKind.u8.min = 0 := rfl
  have h2 : IntKind.u8.max = 255 := rfl
  omega
/-! empty sets lead nowhere -/
theorem bat_in {B : LB} {n : Nat} (hB : B.length = n) {s : Int} (h : bat B s = true) : 0 ≤ s ∧ s < (n : Int) := by
  unfold bat at h
  cases hq : ixAt B s with
  | none => rw [hq] at h; cases h
  | some v =>
    unfold ixAt at hq
    split at hq
    · have := (List.getElem?_eq_some_iff.1 hq).1
      omega
    · cases hq
theorem not_has {B : LB} {n : Nat} (hB : B.length = n) (h : hasT B = false) (s : Int) : bat B s = false := by
  cases hb : bat B s with
  | false => rfl
  | true =>
    have := (hasT_bat hB).2 ⟨s, bat_in hB hb, hb⟩
    rw [h] at this; cases this
theorem clo_emp {n : Nat} {E : List Ed} {X : Int → Prop} (h : ∀ s, ¬ X s) : hasT (clo n E X) = false := by
  cases hh : hasT (clo n E X) with
  | false => rfl
  | true =>
    obtain ⟨s, h1, h2⟩ := (hasT_bat (clo_len n E X)).1 hh
    have := (flg_bat h1).1 h2
    have hno : ∀ {i : Int}, Rch E X i → False := by
      intro i hi
      induction hi with
      | base hx => exact h _ hx
      | step _ _ _ ih => exact ih
    exact (hno this).elim
theorem run_emp {n : Nat} {E : List Ed} : ∀ (w : List Int) {B : LB}, B.length = n → hasT B = false → hasT (runB n E B w) = false ∧ (runB n E B w).length = n
  | [], B, hB, h => ⟨h, hB⟩
  | c :: w, B, hB, h => run_emp w (nxB_len B c) (clo_emp (by
      rintro s ⟨x, _, _, h2, _⟩
      rw [not_has hB h] at h2; cases h2))
theorem acc_emp {Ac : List Int} {n : Nat} {B : LB} (hB : B.length = n) (h : hasT B = false) : accB Ac B = false := by
  unfold accB
  rw [List.any_eq_false]
  intro s _
  rw [not_has hB h]; simp

section
variable {L : Int} {n : Nat} {St : List Int} {E : List Ed} {Ac : List Int}
theorem stp_at {N : LLI} {j : Nat} {r : List Int} {c : Nat} {t : Int} (h1 : N[j]? = some r) (h2 : r[c]? = some t) : M.stp N (j : Int) c = t := by
  unfold M.stp
  rw [if_neg (by omega), Int.toNat_natCast, h1]; simp [h2]
theorem sub_run {L : Nat} {fs : List LB} {N : LLI} {A : LB} (hs : Sets n fs) (hd : DN n E Ac L fs N A) (hN : N.length = fs.length) : ∀ (w : List Nat) (j : Nat) (l : LB), fs[j]? = some l → (∀ c ∈ w, c < L) →
    M.acc A (M.run N (j : Int) w) = accB Ac (runB n E l (w.map M.toI))
  | [], j, l, hl, hw => by
    have hj := (List.getElem?_eq_some_iff.1 hl).1
    have hr : N[j]? = some N[j] := List.getElem?_eq_getElem (by omega)
    obtain ⟨_, _, h3⟩ := hd.2 j _ l hr hl
    show M.acc A (j : Int) = _
    unfold M.acc
    rw [if_pos (by omega), Int.toNat_natCast, h3]; rfl
  | c :: w, j, l, hl, hw => by
    have hj := (List.getElem?_eq_some_iff.1 hl).1
    have hr : N[j]? = some N[j] := List.getElem?_eq_getElem (by omega)
    obtain ⟨h1, h2, _⟩ := hd.2 j _ l hr hl
    have hc := hw c List.mem_cons_self
    have hrc : (N[j])[c]? = some (N[j])[c] := List.getElem?_eq_getElem (by omega)
    show M.acc A (M.run N (M.stp N (j : Int) c) w) = accB Ac (runB n E (nxB n E l (M.toI c)) (w.map M.toI))
    rw [stp_at hr hrc]
    rcases h2 c _ hrc with ⟨h3, h4⟩ | ⟨h3, h4⟩
    · rw [h4, M.acc_neg (M.run_neg w (by omega))]
      have := run_emp (n := n) (E := E) (w.map M.toI) (nxB_len l (c : Int)) h3
      exact (acc_emp this.2 this.1).symm
    · have ih := sub_run hs hd hN w _ _ h4 (fun x hx => hw x (List.mem_cons_of_mem _ hx))
      rw [Int.toNat_of_nonneg h3] at ih
      exact ih
theorem sub_W (h1 : 1 ≤ L) (h8 : L ≤ 8) {fs : List LB} {N : LLI} {A : LB} (hs : Sets n fs) (hd : DN n E Ac L.toNat fs N A) (hN : N.length = fs.length) : M.W L N A := by
  refine ⟨h1, h8, by have := hs.n4; omega, hd.1.symm, fun r hr => ?_⟩
  obtain ⟨j, hj, rfl⟩ := List.getElem_of_mem hr
  obtain ⟨a, b, _⟩ := hd.2 j _ _ (List.getElem?_eq_getElem hj) (List.getElem?_eq_getElem (by omega : j < fs.length))
  refine ⟨by omega, fun t ht => ?_⟩
  obtain ⟨k, hk, rfl⟩ := List.getElem_of_mem ht
  have := (b k _ (List.getElem?_eq_getElem hk)).rng
  omega

/-- the language of an automaton with choices -/
noncomputable def nlang (L : Int) (n : Nat) (St : List Int) (E : List Ed) (Ac : List Int) : M.Lang := fun w => M.wdB L w && nacc n St E Ac (w.map M.toI)
noncomputable def canR (L : Int) (l : M.Lang) : Int × (Int × (LLI × (LB × (Int × Unit)))) := (L, (M.canS l, (M.canN L l, (M.canA L l, (0, ())))))
/-- a language of a small automaton -/
def Sm (L : Int) (l : M.Lang) : Prop := ∃ N A, M.W L N A ∧ M.Lin L N A l ∧ N.length ≤ 400
theorem minV_ok {S : Int} {N : LLI} {A : LB} (h : M.V L S N A) (h0 : N = [] ∨ 0 ≤ S) : minV L S N A = canR L (M.lang L N A S) := by
  unfold minV; rw [h.ok h0]; rfl
theorem st_emp : hasT (st0 n E []) = false := clo_emp (by simp)
theorem nlang_nil : nlang L n [] E Ac = M.emp := by
  funext w
  unfold nlang nacc
  have : hasT (runB n E (st0 n E []) (w.map M.toI)) = false ∧ (runB n E (st0 n E []) (w.map M.toI)).length = n := run_emp (n := n) (E := E) (w.map M.toI) (clo_len n E _) (st_emp (n := n) (E := E))
  rw [acc_emp this.2 this.1]; simp [M.emp]
theorem dAll_lang (h : NV L (n : Int) St E Ac) {r : List LB × LLI × LB} (hr : dAll L.toNat n E Ac 401 0 [st0 n E St] [] [] = some r) :
    dVal L (some r) = canR L (nlang L n St E Ac) ∧ Sm L (nlang L n St E Ac) := by
  have hs : Sets n [st0 n E St] := ⟨by simp, fun B hB => by rw [List.mem_singleton.1 hB]; exact clo_len _ _ _, by simp⟩
  obtain ⟨⟨e, h1⟩, h2, h3, h4⟩ := dAll_facts 401 0 _ _ _ r hr rfl (by simp) (by omega) hs ⟨rfl, fun j r l hj => by simp at hj⟩
  have hW := sub_W h.l1 h.l8 h2 h4 h3
  have hn4 := h2.n4
  have hpos : 0 < r.2.1.length := by rw [h3, h1]; simp
  have hV : M.V L 0 r.2.1 r.2.2 := hW.v (by omega) (by omega)
  have hL : M.lang L r.2.1 r.2.2 0 = nlang L n St E Ac := by
    funext w
    unfold M.lang nlang
    cases hw : M.wdB L w with
    | false => rfl
    | true =>
      have hwd := M.wdB_iff.1 hw
      have := sub_run h2 h4 h3 w 0 (st0 n E St) (by rw [h1]; rfl) (fun c hc => by have := hwd c hc; omega)
      rw [show ((0 : Nat) : Int) = 0 from rfl] at this
      rw [this]; rfl
  refine ⟨?_, r.2.1, r.2.2, hW, ⟨0, by omega, by omega, hL.symm⟩, by omega⟩
  show minV L 0 r.2.1 r.2.2 = _
  rw [minV_ok hV (.inr (Int.le_refl _)), hL]
/-- what Determine answers -/
theorem detR_cases (L S : Int) (St : List Int) (E : List Ed) (Ac : List Int) :
    (∃ e : Int, e ≠ 0 ∧ detR L S St E Ac = (0, (0, ([], ([], (e, ())))))) ∨
      (nok L S St E Ac = true ∧ detR L S St E Ac = canR L (nlang L S.toNat St E Ac) ∧ Sm L (nlang L S.toNat St E Ac)) := by
  unfold detR
  cases hv : nok L S St E Ac
  · exact .inl ⟨1, by decide, rfl⟩
  · have hN := nv_of hv
    obtain ⟨n, rfl⟩ : ∃ n : Nat, S = n := ⟨S.toNat, by have := hN.s0; omega⟩
    rw [Int.toNat_natCast]
    cases St with
    | nil =>
      have hW : M.W L [] [] := ⟨hN.l1, hN.l8, by simp, rfl, fun r hr => by cases hr⟩
      have hV : M.V L (-1) [] [] := hW.v (by simp) (by simp)
      refine .inr ⟨rfl, ?_, [], [], hW, ⟨-1, by omega, by simp, ?_⟩, by simp⟩
      · simp only [cond_true, List.isEmpty_nil]
        rw [minV_ok hV (.inl rfl), nlang_nil, M.lang_neg (by omega)]
      · rw [nlang_nil, M.lang_neg (by omega)]
    | cons s St =>
      simp only [cond_true, List.isEmpty_cons, cond_false]
      cases hd : dAll L.toNat n E Ac 401 0 [st0 n E (s :: St)] [] [] with
      | none => exact .inl ⟨3, by decide, rfl⟩
      | some r =>
        obtain ⟨h1, h2⟩ := dAll_lang hN hd
        exact .inr ⟨trivial, h1, h2⟩
theorem canR_same {l : M.Lang} (h : Sm L l) : ancepsref06_SameDFA.f (canR L l).1 (canR L l).2.1 (canR L l).2.2.1 (canR L l).2.2.2.1 (canR L l).1 (canR L l).2.1 (canR L l).2.2.1 (canR L l).2.2.2.1 = some (true, ()) := by
  obtain ⟨N, A, h1, h2, h3⟩ := h
  exact M.sameC h1 h2
end
end Go.Proofs.C07
