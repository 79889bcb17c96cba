/- Automata with choices: the languages of unions, of words one behind the other, and of repetitions. -/
import Derived.Test.YtmbloefhgkhoaaaP07i
set_option linter.unusedVariables false
set_option linter.unusedSimpArgs false
namespace Go.Proofs.C07
open Go Go.Proofs.R
open M (lt_at lt_end w_at app_at LLI)
set_option linter.unusedVariables false
set_option linter.unusedSimpArgs false
set_option maxRecDepth 100000

def Acc (St : List Int) (E : List Ed) (Ac : List Int) (w : List Int) : Prop := ∃ s ∈ St, ∃ t ∈ Ac, Way E w s t
section
variable {na nb : Nat} {Ea Eb : List Ed} {Sa Sb Aa Ab : List Int}
theorem mem_shE_ge (hb : EdIn nb Eb) {x : Ed} (h : x ∈ shE (na : Int) Eb) : (na : Int) ≤ x.1 ∧ (na : Int) ≤ x.2.2 := by
  have := hb _ (mem_shE.1 h)
  simp only at this
  omega
theorem acc_union (ha : EdIn na Ea) (hb : EdIn nb Eb) (hsa : ∀ s ∈ Sa, 0 ≤ s ∧ s < (na : Int)) (haa : ∀ s ∈ Aa, 0 ≤ s ∧ s < (na : Int)) (hsb : ∀ s ∈ Sb, 0 ≤ s ∧ s < (nb : Int)) (hab : ∀ s ∈ Ab, 0 ≤ s ∧ s < (nb : Int)) (w : List Int) :
    Acc (Sa ++ shL (na : Int) Sb) (Ea ++ shE (na : Int) Eb) (Aa ++ shL (na : Int) Ab) w ↔ Acc Sa Ea Aa w ∨ Acc Sb Eb Ab w := by
  constructor
  · rintro ⟨s, hs, t, ht, hw⟩
    rcases List.mem_append.1 hs with hs | hs
    · left
      obtain ⟨h1, h2⟩ := way_in (E1 := Ea) (P := fun i => 0 ≤ i ∧ i < (na : Int)) (by
        intro x hx hp
        rcases List.mem_append.1 hx with hx | hx
        · exact ⟨hx, (ha x hx).2.1⟩
        · have := mem_shE_ge (na := na) hb hx; omega) hw (hsa s hs)
      refine ⟨s, hs, t, ?_, h1⟩
      rcases List.mem_append.1 ht with ht | ht
      · exact ht
      · have := hab _ (mem_shL.1 ht); omega
    · right
      have h0 := hsb _ (mem_shL.1 hs)
      obtain ⟨h1, h2⟩ := way_in (E1 := shE (na : Int) Eb) (P := fun i => (na : Int) ≤ i) (by
        intro x hx hp
        rcases List.mem_append.1 hx with hx | hx
        · have := ha x hx; omega
        · exact ⟨hx, (mem_shE_ge (na := na) hb hx).2⟩) hw (by omega)
      refine ⟨s - na, mem_shL.1 hs, t - na, ?_, way_unshift h1⟩
      rcases List.mem_append.1 ht with ht | ht
      · have := haa _ ht; omega
      · exact mem_shL.1 ht
  · rintro (⟨s, hs, t, ht, hw⟩ | ⟨s, hs, t, ht, hw⟩)
    · exact ⟨s, List.mem_append_left _ hs, t, List.mem_append_left _ ht, hw.mono fun x hx => List.mem_append_left _ hx⟩
    · exact ⟨s + na, List.mem_append_right _ (mem_shL.2 (by rw [Int.add_sub_cancel]; exact hs)), t + na, List.mem_append_right _ (mem_shL.2 (by rw [Int.add_sub_cancel]; exact ht)), (way_shift hw).mono fun x hx => List.mem_append_right _ hx⟩

/-- the edges from one automaton to the other -/
def joE (Aa : List Int) (k : Int) (Sb : List Int) : List Ed := Aa.flatMap fun s => Sb.map fun t => (s, (-1, t + k))
theorem mem_joE {Aa Sb : List Int} {k : Int} {x : Ed} : x ∈ joE Aa k Sb ↔ ∃ s ∈ Aa, ∃ t ∈ Sb, x = (s, (-1, t + k)) := by
  unfold joE
  rw [List.mem_flatMap]
  constructor
  · rintro ⟨s, h1, h2⟩
    obtain ⟨t, h3, rfl⟩ := List.mem_map.1 h2
    exact ⟨s, h1, t, h3, rfl⟩
  · rintro ⟨s, h1, t, h3, rfl⟩
    exact ⟨s, h1, List.mem_map.2 ⟨t, h3, rfl⟩⟩
theorem acc_concat (ha : EdIn na Ea) (hb : EdIn nb Eb) (hsa : ∀ s ∈ Sa, 0 ≤ s ∧ s < (na : Int)) (haa : ∀ s ∈ Aa, 0 ≤ s ∧ s < (na : Int)) (hsb : ∀ s ∈ Sb, 0 ≤ s ∧ s < (nb : Int)) (hab : ∀ s ∈ Ab, 0 ≤ s ∧ s < (nb : Int)) (w : List Int) (hcw : ∀ c ∈ w, 0 ≤ c) :
    Acc Sa ((Ea ++ shE (na : Int) Eb) ++ joE Aa (na : Int) Sb) (shL (na : Int) Ab) w ↔ ∃ u v, w = u ++ v ∧ Acc Sa Ea Aa u ∧ Acc Sb Eb Ab v := by
  have hmem : ∀ x, x ∈ (Ea ++ shE (na : Int) Eb) ++ joE Aa (na : Int) Sb ↔ x ∈ Ea ∨ x ∈ shE (na : Int) Eb ∨ x ∈ joE Aa (na : Int) Sb := by
    intro x; rw [List.mem_append, List.mem_append, or_assoc]
  have hup : ∀ {v : List Int} {s t : Int}, Way ((Ea ++ shE (na : Int) Eb) ++ joE Aa (na : Int) Sb) v s t → (na : Int) ≤ s → Way (shE (na : Int) Eb) v s t := by
    intro v s t hw hs
    refine (way_in (E1 := shE (na : Int) Eb) (P := fun i => (na : Int) ≤ i) ?_ hw hs).1
    intro x hx hp
    rcases (hmem x).1 hx with hx | hx | hx
    · have := ha x hx; omega
    · exact ⟨hx, (mem_shE_ge (na := na) hb hx).2⟩
    · obtain ⟨f, hf, g, hg, rfl⟩ := mem_joE.1 hx
      have := haa f hf; simp only at hp; omega
  -- from below, a way stays below, or goes up once
  have heps : ∀ {s m : Int}, Eps ((Ea ++ shE (na : Int) Eb) ++ joE Aa (na : Int) Sb) s m → 0 ≤ s ∧ s < (na : Int) → (Eps Ea s m ∧ 0 ≤ m ∧ m < (na : Int)) ∨ ∃ f ∈ Aa, ∃ g ∈ Sb, Eps Ea s f ∧ Eps ((Ea ++ shE (na : Int) Eb) ++ joE Aa (na : Int) Sb) (g + na) m := by
    intro s m h
    induction h with
    | refl => exact fun hs => .inl ⟨.refl _, hs⟩
    | @step x t h1 h2 h3 ih =>
      intro hs
      rcases (hmem x).1 h1 with hx | hx | hx
      · rcases ih (ha x hx).2.1 with ⟨h4, h5⟩ | ⟨f, hf, g, hg, h4, h5⟩
        · exact .inl ⟨.step hx h2 h4, h5⟩
        · exact .inr ⟨f, hf, g, hg, .step hx h2 h4, h5⟩
      · have := mem_shE_ge (na := na) hb hx; omega
      · obtain ⟨f, hf, g, hg, rfl⟩ := mem_joE.1 hx
        exact .inr ⟨f, hf, g, hg, .refl _, h3⟩
  have hway : ∀ {w : List Int} {s t : Int}, (∀ c ∈ w, 0 ≤ c) → Way ((Ea ++ shE (na : Int) Eb) ++ joE Aa (na : Int) Sb) w s t → 0 ≤ s ∧ s < (na : Int) → (0 ≤ t ∧ t < (na : Int)) ∨ ∃ u v f g, w = u ++ v ∧ f ∈ Aa ∧ g ∈ Sb ∧ Way Ea u s f ∧ Way ((Ea ++ shE (na : Int) Eb) ++ joE Aa (na : Int) Sb) v (g + na) t := by
    intro w
    induction w with
    | nil =>
      intro s t _ hw hs
      rcases heps hw hs with ⟨_, h⟩ | ⟨f, hf, g, hg, h4, h5⟩
      · exact .inl h
      · exact .inr ⟨[], [], f, g, rfl, hf, hg, h4, h5⟩
    | cons c w ih =>
      rintro s t hc ⟨x, h1, h2, h3, h4⟩ hs
      have hc0 := hc c List.mem_cons_self
      rcases heps h2 hs with ⟨h5, h6⟩ | ⟨f, hf, g, hg, h5, h6⟩
      · rcases (hmem x).1 h1 with hx | hx | hx
        · rcases ih (fun c hc' => hc c (List.mem_cons_of_mem _ hc')) h4 (ha x hx).2.1 with h7 | ⟨u, v, f, g, rfl, hf, hg, h7, h8⟩
          · exact .inl h7
          · exact .inr ⟨c :: u, v, f, g, rfl, hf, hg, ⟨x, hx, h5, h3, h7⟩, h8⟩
        · have := mem_shE_ge (na := na) hb hx; omega
        · obtain ⟨f, hf, g, hg, rfl⟩ := mem_joE.1 hx
          simp only at h3; omega
      · exact .inr ⟨[], c :: w, f, g, rfl, hf, hg, h5, ⟨x, h1, h6, h3, h4⟩⟩
  constructor
  · rintro ⟨s, hs, t, ht, hw⟩
    have h0 := hab _ (mem_shL.1 ht)
    rcases hway hcw hw (hsa s hs) with h | ⟨u, v, f, g, rfl, hf, hg, h1, h2⟩
    · omega
    · have h3 := way_unshift (hup h2 (by have := hsb g hg; omega))
      rw [Int.add_sub_cancel] at h3
      exact ⟨u, v, rfl, ⟨s, hs, f, hf, h1⟩, g, hg, t - na, mem_shL.1 ht, h3⟩
  · rintro ⟨u, v, rfl, ⟨s, hs, f, hf, h1⟩, g, hg, t, ht, h2⟩
    refine ⟨s, hs, t + na, mem_shL.2 (by rw [Int.add_sub_cancel]; exact ht), way_append.2 ⟨f, h1.mono fun x hx => (hmem x).2 (.inl hx), ?_⟩⟩
    refine Way.pre (t := g + na) ?_ ((way_shift h2).mono fun x hx => (hmem x).2 (.inr (.inl hx)))
    have : (f, ((-1 : Int), g + na)) ∈ (Ea ++ shE (na : Int) Eb) ++ joE Aa (na : Int) Sb := (hmem _).2 (.inr (.inr (mem_joE.2 ⟨f, hf, g, hg, rfl⟩)))
    exact Eps.one this (by show (-1 : Int) < 0; omega)

/-- words, one behind the other -/
inductive Rep (A : List Int → Prop) : List Int → Prop
  | nil : Rep A []
  | app {u v : List Int} : A u → Rep A v → Rep A (u ++ v)
def stE (n : Int) (St Ac : List Int) : List Ed := (St.map fun s => (n, ((-1 : Int), s))) ++ Ac.map fun s => (s, ((-1 : Int), n))
theorem mem_stE {n : Int} {St Ac : List Int} {x : Ed} : x ∈ stE n St Ac ↔ (∃ s ∈ St, x = (n, (-1, s))) ∨ ∃ s ∈ Ac, x = (s, (-1, n)) := by
  unfold stE
  rw [List.mem_append, List.mem_map, List.mem_map]
  constructor
  · rintro (⟨s, h, rfl⟩ | ⟨s, h, rfl⟩)
    · exact .inl ⟨s, h, rfl⟩
    · exact .inr ⟨s, h, rfl⟩
  · rintro (⟨s, h, rfl⟩ | ⟨s, h, rfl⟩)
    · exact .inl ⟨s, h, rfl⟩
    · exact .inr ⟨s, h, rfl⟩
theorem acc_star (ha : EdIn na Ea) (hsa : ∀ s ∈ Sa, 0 ≤ s ∧ s < (na : Int)) (haa : ∀ s ∈ Aa, 0 ≤ s ∧ s < (na : Int)) (w : List Int) (hcw : ∀ c ∈ w, 0 ≤ c) :
    Acc [(na : Int)] (Ea ++ stE (na : Int) Sa Aa) [(na : Int)] w ↔ Rep (Acc Sa Ea Aa) w := by
  have hmem : ∀ x, x ∈ Ea ++ stE (na : Int) Sa Aa ↔ x ∈ Ea ∨ (∃ s ∈ Sa, x = ((na : Int), ((-1 : Int), s))) ∨ ∃ s ∈ Aa, x = (s, ((-1 : Int), (na : Int))) := by
    intro x; rw [List.mem_append, mem_stE]
  constructor
  · rintro ⟨s, hs, t, ht, hw⟩
    rw [List.mem_singleton] at hs ht
    subst hs; subst ht
    let Q : List Int → Int → Prop := fun w s => (s = (na : Int) → Rep (Acc Sa Ea Aa) w) ∧ (0 ≤ s ∧ s < (na : Int) → ∃ u v f, w = u ++ v ∧ f ∈ Aa ∧ Way Ea u s f ∧ Rep (Acc Sa Ea Aa) v)
    have hQe : ∀ (x : Ed) (w : List Int), x ∈ Ea ++ stE (na : Int) Sa Aa → x.2.1 < 0 → Q w x.2.2 → Q w x.1 := by
      intro x w hx h0 hq
      rcases (hmem x).1 hx with h | ⟨s, hs, rfl⟩ | ⟨s, hs, rfl⟩
      · have := ha x h
        refine ⟨fun e => by omega, fun _ => ?_⟩
        obtain ⟨u, v, f, e, hf, h1, h2⟩ := hq.2 this.2.1
        exact ⟨u, v, f, e, hf, Way.pre (.one h h0) h1, h2⟩
      · refine ⟨fun _ => ?_, fun h => by simp only at h; omega⟩
        obtain ⟨u, v, f, rfl, hf, h1, h2⟩ := hq.2 (hsa s hs)
        exact .app ⟨s, hs, f, hf, h1⟩ h2
      · have := haa s hs
        refine ⟨fun e => by simp only at e; omega, fun _ => ?_⟩
        exact ⟨[], w, s, rfl, hs, .refl _, hq.1 rfl⟩
    have hQeps : ∀ {s m : Int} (w : List Int), Eps (Ea ++ stE (na : Int) Sa Aa) s m → Q w m → Q w s := by
      intro s m w h
      induction h with
      | refl => exact id
      | step h1 h2 _ ih => exact fun hq => hQe _ w h1 h2 (ih hq)
    have hQw : ∀ (w : List Int) (s : Int), (∀ c ∈ w, 0 ≤ c) → Way (Ea ++ stE (na : Int) Sa Aa) w s (na : Int) → Q w s := by
      intro w
      induction w with
      | nil => intro s _ h; exact hQeps [] h ⟨fun _ => .nil, fun h => by omega⟩
      | cons c w ih =>
        rintro s hc ⟨x, h1, h2, h3, h4⟩
        refine hQeps (c :: w) h2 ?_
        have hc0 := hc c List.mem_cons_self
        rcases (hmem x).1 h1 with h | ⟨s, hs, rfl⟩ | ⟨s, hs, rfl⟩
        · have := ha x h
          refine ⟨fun e => by omega, fun _ => ?_⟩
          obtain ⟨u, v, f, rfl, hf, h5, h6⟩ := (ih x.2.2 (fun c hc' => hc c (List.mem_cons_of_mem _ hc')) h4).2 this.2.1
          exact ⟨c :: u, v, f, rfl, hf, ⟨x, h, .refl _, h3, h5⟩, h6⟩
        · simp only at h3; omega
        · simp only at h3; omega
    exact (hQw w na hcw hw).1 rfl
  · intro h
    refine ⟨na, List.mem_singleton.2 rfl, na, List.mem_singleton.2 rfl, ?_⟩
    clear hcw
    induction h with
    | nil => exact .refl _
    | @app u v hu _ ih =>
      obtain ⟨s, hs, f, hf, h1⟩ := hu
      refine way_append.2 ⟨na, ?_, ih⟩
      have e1 : ((na : Int), ((-1 : Int), s)) ∈ Ea ++ stE (na : Int) Sa Aa := (hmem _).2 (.inr (.inl ⟨s, hs, rfl⟩))
      have e2 : (f, ((-1 : Int), (na : Int))) ∈ Ea ++ stE (na : Int) Sa Aa := (hmem _).2 (.inr (.inr ⟨f, hf, rfl⟩))
      exact Way.pre (Eps.one e1 (by show (-1 : Int) < 0; omega)) (Way.post (Eps.one e2 (by show (-1 : Int) < 0; omega)) (h1.mono fun x hx => (hmem x).2 (.inl hx)))
end

/-! edges, put in order -/
end Go.Proofs.C07
