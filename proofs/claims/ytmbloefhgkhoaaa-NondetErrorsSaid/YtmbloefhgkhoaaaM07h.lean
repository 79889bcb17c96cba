/- The states from which a word is accepted: both texts find them. -/
import Derived.Test.YtmbloefhgkhoaaaM07g
set_option linter.unusedVariables false
set_option linter.unusedSimpArgs false
namespace Go.Proofs.C07.M
open Go Go.Proofs.R
set_option linter.unusedVariables false
set_option linter.unusedSimpArgs false
set_option maxRecDepth 100000

section
variable {L : Int} {N : LLI} {A : LB}
def live (L : Int) (N : LLI) (A : LB) (s : Int) : Prop := lang L N A s ≠ emp
theorem ne_emp {l : Lang} (h : l ≠ emp) : ∃ w, l w = true := by
  refine Classical.byContradiction fun hn => h ?_
  funext w
  cases hx : l w with
  | false => rfl
  | true => exact absurd ⟨w, hx⟩ hn
theorem of_word {l : Lang} {w : List Nat} (h : l w = true) : l ≠ emp := by
  rintro rfl; cases h
theorem live_acc {s : Int} (h : acc A s = true) : live L N A s := of_word (w := []) h
theorem live_back {s : Int} {c : Nat} (hc : (c : Int) < L) (h : live L N A (stp N s c)) : live L N A s := by
  obtain ⟨w, hw⟩ := ne_emp h
  refine of_word (w := c :: w) ?_
  have : der (lang L N A s) c w = true := by rw [lang_der hc]; exact hw
  exact this
theorem live_nn {s : Int} (h : live L N A s) : 0 ≤ s := by
  refine Classical.byContradiction fun hn => h (lang_neg (by omega))
theorem live_ind (h : W L N A) {P : Int → Prop} (h0 : ∀ s : Int, 0 ≤ s → s < N.length → acc A s = true → P s)
    (h1 : ∀ (s : Int) (c : Nat), 0 ≤ s → s < N.length → (c : Int) < L → 0 ≤ stp N s c → P (stp N s c) → P s) {s : Int} (hs : s < N.length) (hl : live L N A s) : P s := by
  have hnn := live_nn hl
  obtain ⟨w, hw⟩ := ne_emp hl
  clear hl
  induction w generalizing s with
  | nil => exact h0 s hnn hs hw
  | cons c w ih =>
    have hc : (c : Int) < L := lang_of _ hw c List.mem_cons_self
    have hd : lang L N A (stp N s c) w = true := by rw [← lang_der hc]; exact hw
    have hst := (stp_W h ⟨by omega, hs⟩ hc).1
    have hnn' : 0 ≤ stp N s c := live_nn (of_word hd)
    exact h1 s c hnn hs hc hnn' (ih hst.2 hnn' hd)

/-- a list tells the states that are live -/
def LvOk (L : Int) (N : LLI) (A : LB) (lv : LB) : Prop := lv.length = N.length ∧ ∀ s : Nat, s < N.length → ((lv[s]? = some true) ↔ live L N A (s : Int))

theorem acc_nat (A : LB) (s : Nat) : (acc A (s : Int) = true) ↔ A[s]? = some true := by
  unfold acc
  rw [if_pos (by omega), Int.toNat_natCast]
  cases A[s]? with
  | none => simp
  | some b => simp
theorem stp_nat {s c : Nat} {r : List Int} {t : Int} (hr : N[s]? = some r) (ht : r[c]? = some t) : stp N (s : Int) c = t := by
  unfold stp
  rw [if_neg (by omega), Int.toNat_natCast, hr]
  simp only [Option.getD_some]; rw [ht]; rfl

def fls (l : LB) : Nat := l.countP fun b => !b
theorem fls_set : ∀ {l : LB} {j : Nat}, l[j]? = some false → fls (l.set j true) + 1 = fls l
  | [], j, h => by simp at h
  | b :: l, 0, h => by
    simp at h; subst h
    simp [fls]
  | b :: l, j + 1, h => by
    simp only [List.getElem?_cons_succ] at h
    have := fls_set h
    simp only [fls, List.set_cons_succ, List.countP_cons] at this ⊢
    omega
theorem get_set {α : Type} {l : List α} {i j : Nat} {x : α} : (l.set i x)[j]? = if i = j then (if i < l.length then some x else none) else l[j]? := by
  rw [List.getElem?_set]
theorem ixAt_lt {α : Type} {xs : List α} {n : Nat} (h : n < xs.length) : ixAt xs (n : Int) = some xs[n] := by rw [ixAt_nat, List.getElem?_eq_getElem h]
theorem mkLen_ok {n : Nat} (h : n ≤ 4294967296) : mkLen (n : Int) (n : Int) = some n := by
  unfold mkLen mostLen; rw [if_pos ⟨by omega, by omega, by omega⟩, Int.toNat_natCast]
theorem setRow_nat {α : Type} (xs : List α) (n : Nat) (x : α) : setRow xs (n : Int) x = xs.set n x := by unfold setRow; rw [Int.toNat_natCast]

/-! ### the program's -/
structure Back (L : Int) (N : LLI) (i k : Nat) (bk : LLI) : Prop where
  len : bk.length = N.length
  has : ∀ t : Nat, t < N.length → ∃ l, bk[t]? = some l ∧ l.length ≤ 8 * i + k ∧ (∀ u ∈ l, ∃ j : Nat, u = (j : Int) ∧ j < N.length ∧ ∃ c : Nat, (c : Int) < L ∧ stp N (j : Int) c = (t : Int)) ∧
    (∀ j c : Nat, (c : Int) < L → j < i ∨ j = i ∧ c < k → stp N (j : Int) c = (t : Int) → (j : Int) ∈ l)

structure Todo (L : Int) (N : LLI) (A : LB) (x : Option Nat) (out : LB) (todo : List Int) : Prop where
  len : out.length = N.length
  snd : ∀ s : Nat, out[s]? = some true → live L N A (s : Int)
  tod : ∀ u ∈ todo, ∃ j : Nat, u = (j : Int) ∧ out[j]? = some true
  acc : ∀ s : Nat, A[s]? = some true → out[s]? = some true
  cls : ∀ s : Nat, s < N.length → out[s]? = some true → (s : Int) ∉ todo → some s ≠ x → ∀ j c : Nat, j < N.length → (c : Int) < L → stp N (j : Int) c = (s : Int) → out[j]? = some true
  sum : todo.length + fls out ≤ N.length

structure Ini (N : LLI) (A : LB) (i : Nat) (out : LB) (todo : List Int) : Prop where
  len : out.length = N.length
  is : ∀ s : Nat, s < N.length → ((out[s]? = some true) ↔ (s < i ∧ A[s]? = some true))
  tod : ∀ u ∈ todo, ∃ j : Nat, u = (j : Int) ∧ out[j]? = some true
  mem : ∀ s : Nat, s < i → A[s]? = some true → (s : Int) ∈ todo
  sum : todo.length + fls out = N.length

/-! ### the reference's -/
structure Mrk (L : Int) (N : LLI) (A : LB) (out : LB) : Prop where
  len : out.length = N.length
  snd : ∀ s : Nat, out[s]? = some true → live L N A (s : Int)
  acc : ∀ s : Nat, A[s]? = some true → out[s]? = some true
/-- a place that is still to be marked -/
def Bad (L : Int) (N : LLI) (out : LB) (j c : Nat) : Prop := (c : Int) < L ∧ out[j]? = some false ∧ 0 ≤ stp N (j : Int) c ∧ out[(stp N (j : Int) c).toNat]? = some true

theorem live_l9 (h : W L N A) {S : Int} {i : Nat} (hi : i < N.length) : ∀ (f c : Nat) (again : Bool) (out : LB), (c : Int) + f = L → Mrk L N A out →
    (again = false → ∀ c', c' < c → ¬ Bad L N out i c') →
    ∃ again' out', Mrk L N A out' ∧ ancepsref06_Live.l9 again (i : Int) (c : Int) L S N A out = ancepsref06_Live.l6 again' ((i + 1 : Nat) : Int) L S N A out' ∧
      ((again' = false ∧ again = false ∧ out' = out ∧ ∀ c', ¬ Bad L N out i c') ∨ (again' = true ∧ again = true ∧ fls out' ≤ fls out) ∨ (again' = true ∧ fls out' < fls out))
  | 0, c, again, out, hc, hm, hb => by
    have hn := h.n
    refine ⟨again, out, hm, by rw [ancepsref06_Live.l9_eq, ifB_not _ _ (decide_eq_false (by omega)), w64_succ (by omega)], ?_⟩
    cases again with
    | true => exact .inr (.inl ⟨rfl, rfl, Nat.le_refl _⟩)
    | false =>
      refine .inl ⟨rfl, rfl, rfl, fun c' hbad => ?_⟩
      have := hbad.1
      exact hb rfl c' (by omega) hbad
  | f + 1, c, again, out, hc, hm, hb => by
    have hn := h.n
    have h8 := h.l8
    have hcL : (c : Int) < L := by omega
    have hol : i < out.length := by rw [hm.len]; exact hi
    have hix : ixAt out (i : Int) = some out[i] := ixAt_lt hol
    rw [ancepsref06_Live.l9_eq, ifB_of _ _ (decide_eq_true hcL), hix]
    simp only [bindD_some]
    cases hx : out[i] with
    | true =>
      have hoi : out[i]? = some true := by rw [List.getElem?_eq_getElem hol, hx]
      rw [Bool.not_true, ifB_false]
      refine ⟨again, out, hm, by rw [w64_succ (by omega)], ?_⟩
      cases again with
      | true => exact .inr (.inl ⟨rfl, rfl, Nat.le_refl _⟩)
      | false =>
        refine .inl ⟨rfl, rfl, rfl, fun c' hbad => ?_⟩
        have := hbad.2.1
        rw [hoi] at this; cases this
    | false =>
      have hoi : out[i]? = some false := by rw [List.getElem?_eq_getElem hol, hx]
      obtain ⟨hst, hrow⟩ := stp_W h (s := (i : Int)) ⟨by omega, by omega⟩ hcL
      obtain ⟨r, hr1, hr2⟩ := hrow (by omega)
      rw [Int.toNat_natCast] at hr1
      rw [Bool.not_false, ifB_true, ixAt_nat, hr1]
      simp only [bindD_some]
      rw [ixAt_nat, hr2]
      simp only [bindD_some]
      have hw : IntKind.i64.wrap ((c : Int) + 1) = ((c + 1 : Nat) : Int) := w64_succ (by omega)
      rw [hw]
      by_cases h0 : stp N (i : Int) c ≥ 0
      · have hko : (stp N (i : Int) c).toNat < out.length := by rw [hm.len]; omega
        rw [ifB_of _ _ (decide_eq_true h0), ixAt_int out h0, List.getElem?_eq_getElem hko]
        simp only [bindD_some]
        cases hy : out[(stp N (i : Int) c).toNat] with
        | true =>
          have hfl := fls_set hoi
          rw [ifB_true, setRow_nat]
          have hm' : Mrk L N A (out.set i true) := by
            refine ⟨by simp [hm.len], ?_, ?_⟩
            · intro s hs
              rw [get_set] at hs
              by_cases e : i = s
              · subst e
                refine live_back hcL ?_
                have := hm.snd _ (by rw [List.getElem?_eq_getElem hko, hy])
                rw [Int.toNat_of_nonneg h0] at this
                exact this
              · rw [if_neg e] at hs; exact hm.snd s hs
            · intro s hs
              rw [get_set]
              by_cases e : i = s
              · rw [if_pos e, if_pos hol]
              · rw [if_neg e]; exact hm.acc s hs
          obtain ⟨again', out', r1, r2, r3⟩ := live_l9 h (S := S) hi f (c + 1) true (out.set i true) (by omega) hm' (fun e => by cases e)
          refine ⟨again', out', r1, r2, ?_⟩
          rcases r3 with ⟨_, e, _⟩ | ⟨e1, _, e3⟩ | ⟨e1, e2⟩
          · cases e
          · exact .inr (.inr ⟨e1, by omega⟩)
          · exact .inr (.inr ⟨e1, by omega⟩)
        | false =>
          rw [ifB_false]
          refine live_l9 h hi f (c + 1) again out (by omega) hm (fun e c' hc' hbad => ?_)
          by_cases e2 : c' = c
          · subst e2
            have := hbad.2.2.2
            rw [List.getElem?_eq_getElem hko, hy] at this; cases this
          · exact hb e c' (by omega) hbad
      · rw [ifB_not _ _ (decide_eq_false h0)]
        refine live_l9 h hi f (c + 1) again out (by omega) hm (fun e c' hc' hbad => ?_)
        by_cases e2 : c' = c
        · subst e2; exact h0 hbad.2.2.1
        · exact hb e c' (by omega) hbad

theorem live_l6 (h : W L N A) {S : Int} : ∀ (f i : Nat) (again : Bool) (out : LB), i + f = N.length → Mrk L N A out → (again = false → ∀ j c, j < i → ¬ Bad L N out j c) →
    ∃ again' out', Mrk L N A out' ∧ ancepsref06_Live.l6 again (i : Int) L S N A out = ancepsref06_Live.l3 again' L S N A out' ∧
      ((again' = false ∧ again = false ∧ out' = out ∧ ∀ j c, j < N.length → ¬ Bad L N out j c) ∨ (again' = true ∧ again = true ∧ fls out' ≤ fls out) ∨ (again' = true ∧ fls out' < fls out))
  | 0, i, again, out, hf, hm, hb => by
    refine ⟨again, out, hm, by rw [ancepsref06_Live.l6_eq, ifB_not _ _ (decide_eq_false (by omega))], ?_⟩
    cases again with
    | true => exact .inr (.inl ⟨rfl, rfl, Nat.le_refl _⟩)
    | false => exact .inl ⟨rfl, rfl, rfl, fun j c hj => hb rfl j c (by omega)⟩
  | f + 1, i, again, out, hf, hm, hb => by
    have hL := h.l1
    have hi : i < N.length := by omega
    obtain ⟨a1, o1, r1, r2, r3⟩ := live_l9 h (S := S) hi L.toNat 0 again out (by omega) hm (fun _ c' hc' => by omega)
    rw [show ((0 : Nat) : Int) = 0 from rfl] at r2
    rw [ancepsref06_Live.l6_eq, ifB_of _ _ (decide_eq_true (by omega)), r2]
    rcases r3 with ⟨e1, e2, e3, e4⟩ | ⟨e1, e2, e3⟩ | ⟨e1, e2⟩
    · subst e3
      refine live_l6 h f (i + 1) a1 o1 (by omega) r1 (fun _ j c hj => ?_) |> fun ⟨a2, o2, q1, q2, q3⟩ => ⟨a2, o2, q1, q2, ?_⟩
      · by_cases e : j = i
        · subst e; exact e4 c
        · exact hb e2 j c (by omega)
      · rw [e1] at q3
        rcases q3 with ⟨q0, _, q3⟩ | ⟨_, q3, _⟩ | q3
        · exact .inl ⟨q0, e2, q3⟩
        · cases q3
        · exact .inr (.inr q3)
    · obtain ⟨a2, o2, q1, q2, q3⟩ := live_l6 h (S := S) f (i + 1) a1 o1 (by omega) r1 (fun e => by rw [e1] at e; cases e)
      refine ⟨a2, o2, q1, q2, ?_⟩
      rcases q3 with ⟨e, q3, _⟩ | ⟨e, e', q3⟩ | ⟨e, q3⟩
      · rw [e1] at q3; cases q3
      · exact .inr (.inl ⟨e, e2, by omega⟩)
      · exact .inr (.inr ⟨e, by omega⟩)
    · obtain ⟨a2, o2, q1, q2, q3⟩ := live_l6 h (S := S) f (i + 1) a1 o1 (by omega) r1 (fun e => by rw [e1] at e; cases e)
      refine ⟨a2, o2, q1, q2, ?_⟩
      rcases q3 with ⟨e, q3, _⟩ | ⟨e, e', q3⟩ | ⟨e, q3⟩
      · rw [e1] at q3; cases q3
      · exact .inr (.inr ⟨e, by omega⟩)
      · exact .inr (.inr ⟨e, by omega⟩)

theorem live_l3 (h : W L N A) {S : Int} : ∀ (f : Nat) (out : LB), Mrk L N A out → fls out ≤ f →
    ∃ out', Mrk L N A out' ∧ (∀ j c, j < N.length → ¬ Bad L N out' j c) ∧ ancepsref06_Live.l3 true L S N A out = some (out', ())
  | f, out, hm, hf => by
    obtain ⟨a1, o1, r1, r2, r3⟩ := live_l6 h (S := S) N.length 0 false out (by omega) hm (fun _ j c hj => by omega)
    rw [show ((0 : Nat) : Int) = 0 from rfl] at r2
    rw [ancepsref06_Live.l3_eq, ifB_true, r2]
    rcases r3 with ⟨e1, _, e2, e3⟩ | ⟨_, e, _⟩ | ⟨e1, e2⟩
    · subst e1; subst e2
      exact ⟨o1, r1, e3, by rw [ancepsref06_Live.l3_eq, ifB_false]⟩
    · cases e
    · subst e1
      cases f with
      | zero => omega
      | succ f => exact live_l3 h f o1 r1 (by omega)

theorem mrk_lv (h : W L N A) {out : LB} (hm : Mrk L N A out) (hb : ∀ j c, j < N.length → ¬ Bad L N out j c) : LvOk L N A out := by
  refine ⟨hm.len, fun s hs => ⟨hm.snd s, fun hl => ?_⟩⟩
  have := live_ind h (P := fun s => out[s.toNat]? = some true) (fun s h0 h1 ha => ?_) (fun s c h0 h1 hc h2 hp => ?_) (s := (s : Int)) (by omega) hl
  · simpa using this
  · refine hm.acc _ ((acc_nat A s.toNat).1 ?_)
    rw [Int.toNat_of_nonneg h0]; exact ha
  · have hsl : s.toNat < out.length := by rw [hm.len]; omega
    cases hx : out[s.toNat] with
    | true => rw [List.getElem?_eq_getElem hsl, hx]
    | false =>
      refine absurd ?_ (hb s.toNat c (by omega))
      refine ⟨hc, by rw [List.getElem?_eq_getElem hsl, hx], ?_, ?_⟩
      · rw [Int.toNat_of_nonneg h0]; exact h2
      · rw [Int.toNat_of_nonneg h0]; exact hp
theorem rlive_f (h : W L N A) (S : Int) : ∃ lv, LvOk L N A lv ∧ ancepsref06_Live.f L S N A = some (lv, ()) := by
  have hn := h.n
  have ha := h.a
  have hm : Mrk L N A A := ⟨h.a, fun s hs => live_acc ((acc_nat A s).2 hs), fun s hs => hs⟩
  obtain ⟨out, h1, h2, h3⟩ := live_l3 h (S := S) (fls A) A hm (Nat.le_refl _)
  exact ⟨out, mrk_lv h h1 h2, by rw [ancepsref06_Live.f_eq, grow_ok (by simp; omega)]; exact h3⟩
end
end Go.Proofs.C07.M
