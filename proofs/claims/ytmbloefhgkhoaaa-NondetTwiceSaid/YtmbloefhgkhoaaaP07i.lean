/- Automata with choices: words as ways from state to state. -/
import Derived.Test.YtmbloefhgkhoaaaP07h
set_option linter.unusedVariables false
set_option linter.unusedSimpArgs false
namespace Go.Proofs.C07
open Go Go.Proofs.R
open M (lt_at lt_end w_at app_at LLI)
set_option linter.unusedVariables false
set_option linter.unusedSimpArgs false
set_option maxRecDepth 100000

/-! ways -/
inductive Eps (E : List Ed) : Int → Int → Prop
  | refl (s : Int) : Eps E s s
  | step {x : Ed} {t : Int} : x ∈ E → x.2.1 < 0 → Eps E x.2.2 t → Eps E x.1 t
def Way (E : List Ed) : List Int → Int → Int → Prop
  | [], s, t => Eps E s t
  | c :: w, s, t => ∃ x ∈ E, Eps E s x.1 ∧ x.2.1 = c ∧ Way E w x.2.2 t
section
variable {E E' : List Ed}
theorem Eps.trans {s t u : Int} (h : Eps E s t) (h' : Eps E t u) : Eps E s u := by
  induction h with
  | refl => exact h'
  | step h1 h2 _ ih => exact .step h1 h2 (ih h')
theorem Eps.one {x : Ed} (h : x ∈ E) (h0 : x.2.1 < 0) : Eps E x.1 x.2.2 := .step h h0 (.refl _)
theorem Eps.mono (h : ∀ x ∈ E, x ∈ E') {s t : Int} (hs : Eps E s t) : Eps E' s t := by
  induction hs with
  | refl => exact .refl _
  | step h1 h2 _ ih => exact .step (h _ h1) h2 ih
theorem Way.mono (h : ∀ x ∈ E, x ∈ E') : ∀ {w : List Int} {s t : Int}, Way E w s t → Way E' w s t
  | [], _, _, hw => Eps.mono h hw
  | _ :: _, _, _, ⟨x, h1, h2, h3, h4⟩ => ⟨x, h x h1, h2.mono h, h3, Way.mono h h4⟩
theorem Way.pre {s t u : Int} (h : Eps E s t) : ∀ {w : List Int}, Way E w t u → Way E w s u
  | [], hw => Eps.trans h hw
  | _ :: _, ⟨x, h1, h2, h3, h4⟩ => ⟨x, h1, h.trans h2, h3, h4⟩
theorem Way.post {t u : Int} (h : Eps E t u) : ∀ {w : List Int} {s : Int}, Way E w s t → Way E w s u
  | [], _, hw => Eps.trans hw h
  | _ :: _, _, ⟨x, h1, h2, h3, h4⟩ => ⟨x, h1, h2, h3, Way.post h h4⟩
theorem way_append : ∀ {u v : List Int} {s t : Int}, Way E (u ++ v) s t ↔ ∃ m, Way E u s m ∧ Way E v m t
  | [], v, s, t => ⟨fun h => ⟨s, .refl _, h⟩, fun ⟨m, h1, h2⟩ => h2.pre h1⟩
  | c :: u, v, s, t => by
    constructor
    · rintro ⟨x, h1, h2, h3, h4⟩
      obtain ⟨m, h5, h6⟩ := way_append.1 h4
      exact ⟨m, ⟨x, h1, h2, h3, h5⟩, h6⟩
    · rintro ⟨m, ⟨x, h1, h2, h3, h4⟩, h5⟩
      exact ⟨x, h1, h2, h3, way_append.2 ⟨m, h4, h5⟩⟩
theorem rch_eps {X : Int → Prop} {t : Int} : Rch E X t ↔ ∃ s, X s ∧ Eps E s t := by
  constructor
  · intro h
    induction h with
    | base h => exact ⟨_, h, .refl _⟩
    | step h1 h2 _ ih =>
      obtain ⟨s, h3, h4⟩ := ih
      exact ⟨s, h3, h4.trans (.one h1 h2)⟩
  · rintro ⟨s, h, hs⟩
    have : ∀ {s t}, Eps E s t → Rch E X s → Rch E X t := by
      intro s t hs
      induction hs with
      | refl => exact id
      | step h1 h2 _ ih => exact fun h => ih (.step h1 h2 h)
    exact this hs (.base h)
end
section
variable {n : Nat} {E : List Ed}
/-- what a set leads to -/
theorem run_way (hE : EdIn n E) : ∀ (w : List Int) (X : Int → Prop) (t : Int), 0 ≤ t ∧ t < (n : Int) → (bat (runB n E (clo n E X) w) t = true ↔ ∃ s, X s ∧ Way E w s t)
  | [], X, t, ht => (flg_bat ht).trans rch_eps
  | c :: w, X, t, ht => by
    show bat (runB n E (clo n E (tgt E (clo n E X) c)) w) t = true ↔ _
    rw [run_way hE w _ t ht]
    constructor
    · rintro ⟨s', ⟨x, h1, h2, h3, rfl⟩, h4⟩
      obtain ⟨s, h5, h6⟩ := rch_eps.1 ((flg_bat (hE x h1).1).1 h3)
      exact ⟨s, h5, x, h1, h6, h2, h4⟩
    · rintro ⟨s, h5, x, h1, h6, h2, h4⟩
      exact ⟨x.2.2, ⟨x, h1, h2, (flg_bat (hE x h1).1).2 (rch_eps.2 ⟨s, h5, h6⟩), rfl⟩, h4⟩
theorem nacc_way (hE : EdIn n E) {St Ac : List Int} (hA : ∀ s ∈ Ac, 0 ≤ s ∧ s < (n : Int)) (w : List Int) : nacc n St E Ac w = true ↔ ∃ s ∈ St, ∃ t ∈ Ac, Way E w s t := by
  unfold nacc accB st0
  rw [List.any_eq_true]
  constructor
  · rintro ⟨t, h1, h2⟩
    obtain ⟨s, h3, h4⟩ := (run_way hE w _ t (hA t h1)).1 h2
    exact ⟨s, h3, t, h1, h4⟩
  · rintro ⟨s, h3, t, h1, h4⟩
    exact ⟨t, h1, (run_way hE w _ t (hA t h1)).2 ⟨s, h3, h4⟩⟩
theorem nacc_congr {St Ac St' Ac' w w'} {n' : Nat} {E' : List Ed} (hE : EdIn n E) (hA : ∀ s ∈ Ac, 0 ≤ s ∧ s < (n : Int)) (hE' : EdIn n' E') (hA' : ∀ s ∈ Ac', 0 ≤ s ∧ s < (n' : Int))
    (h : (∃ s ∈ St, ∃ t ∈ Ac, Way E w s t) ↔ ∃ s ∈ St', ∃ t ∈ Ac', Way E' w' s t) : nacc n St E Ac w = nacc n' St' E' Ac' w' := by
  rw [Bool.eq_iff_iff, nacc_way hE hA, nacc_way hE' hA']; exact h
end

/-! reversed ways -/
def revE (E : List Ed) : List Ed := E.map fun x => (x.2.2, (x.2.1, x.1))
theorem mem_revE {E : List Ed} {a c b : Int} : (a, (c, b)) ∈ revE E ↔ (b, (c, a)) ∈ E := by
  unfold revE
  rw [List.mem_map]
  constructor
  · rintro ⟨x, h1, h2⟩
    simp only [Prod.mk.injEq] at h2
    obtain ⟨rfl, rfl, rfl⟩ := h2
    exact h1
  · intro h; exact ⟨_, h, rfl⟩
theorem eps_rev {E : List Ed} {s t : Int} (h : Eps E s t) : Eps (revE E) t s := by
  induction h with
  | refl => exact .refl _
  | step h1 h2 _ ih =>
    refine ih.trans ?_
    exact Eps.one (x := (_, (_, _))) (mem_revE.2 h1) h2
theorem revE_revE (E : List Ed) : revE (revE E) = E := by
  unfold revE; rw [List.map_map]
  conv => rhs; rw [← List.map_id E]
  exact List.map_congr_left fun x _ => rfl
theorem way_rev {E : List Ed} : ∀ {w : List Int} {s t : Int}, Way E w s t → Way (revE E) w.reverse t s
  | [], _, _, h => eps_rev h
  | c :: w, s, t, ⟨x, h1, h2, h3, h4⟩ => by
    rw [List.reverse_cons]
    refine way_append.2 ⟨x.2.2, way_rev h4, (x.2.2, (x.2.1, x.1)), mem_revE.2 h1, .refl _, h3, ?_⟩
    exact eps_rev h2
theorem way_rev_iff {E : List Ed} {w : List Int} {s t : Int} : Way (revE E) w s t ↔ Way E w.reverse t s := by
  constructor
  · intro h; have := way_rev h; rwa [revE_revE] at this
  · intro h; have := way_rev h; rwa [List.reverse_reverse] at this

/-! ways in two automata beside each other -/
section
variable {na nb : Nat} {Ea Eb B : List Ed}
end
end Go.Proofs.C07
