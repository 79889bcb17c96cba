/- The classes are those of equal languages. -/
import Derived.Test.YtmbloefhgkhoaaaM07i
set_option linter.unusedVariables false
set_option linter.unusedSimpArgs false
namespace Go.Proofs.C07.M
open Go Go.Proofs.R
set_option linter.unusedVariables false
set_option linter.unusedSimpArgs false
set_option maxRecDepth 100000

theorem place_inj {α : Type} {d d' : α} {l : List α} (h : d ∈ l) (h' : d' ∈ l) (e : place d l = place d' l) : d = d' := by
  have h1 := (place_mem h).1
  have h2 := (place_mem h').1
  rw [e, h2] at h1; exact (Option.some.inj h1).symm

theorem namesF_mem (c : List Int) : ∀ (rs : LLI) (s : Nat) (ns : LLI) (q : List Int), q ∈ namesF c rs s ns ↔ q ∈ ns ∨ ∃ j r, rs[j]? = some r ∧ cat c (s + j) ≠ 0 ∧ q = keyC c (s + j) r
  | [], s, ns, q => by simp [namesF]
  | r :: rs, s, ns, q => by
    show q ∈ namesF c rs (s + 1) _ ↔ _
    rw [namesF_mem c rs (s + 1) _ q]
    constructor
    · rintro (h | ⟨j, r', h1, h2, h3⟩)
      · by_cases h0 : cat c s = 0
        · rw [if_pos h0] at h; exact .inl h
        · rw [if_neg h0] at h
          rcases mem_putIn h with h | h
          · exact .inl h
          · exact .inr ⟨0, r, rfl, h0, h⟩
      · exact .inr ⟨j + 1, r', h1, by rw [← Nat.add_assoc, Nat.add_right_comm]; exact h2, by rw [← Nat.add_assoc, Nat.add_right_comm]; exact h3⟩
    · rintro (h | ⟨j, r', h1, h2, h3⟩)
      · left
        split
        · exact h
        · obtain ⟨e, he⟩ := putIn_pre (keyC c s r) ns
          rw [he]; exact List.mem_append_left _ h
      · cases j with
        | zero =>
          simp only [List.getElem?_cons_zero, Option.some.injEq] at h1; subst h1
          rw [Nat.add_zero] at h2 h3
          left
          rw [if_neg h2, h3]; exact putIn_mem _ _
        | succ j =>
          right
          exact ⟨j, r', h1, by rw [← Nat.add_assoc, Nat.add_right_comm] at h2; exact h2, by rw [← Nat.add_assoc, Nat.add_right_comm] at h3; exact h3⟩
theorem namesF_nodup (c : List Int) : ∀ (rs : LLI) (s : Nat) (ns : LLI), ns.Nodup → (namesF c rs s ns).Nodup
  | [], s, ns, h => h
  | r :: rs, s, ns, h => by
    refine namesF_nodup c rs (s + 1) _ ?_
    split
    · exact h
    · exact putIn_nodup h
theorem nextF_get (c : List Int) (ns : LLI) : ∀ (rs : LLI) (s j : Nat) (r : List Int), rs[j]? = some r → (nextF c ns rs s)[j]? = some (if cat c (s + j) = 0 then 0 else ((place (keyC c (s + j) r) ns + 1 : Nat) : Int))
  | [], s, j, r, h => by simp at h
  | r' :: rs, s, 0, r, h => by
    simp only [List.getElem?_cons_zero, Option.some.injEq] at h; subst h; rfl
  | r' :: rs, s, j + 1, r, h => by
    simp only [List.getElem?_cons_succ] at h
    have := nextF_get c ns rs (s + 1) j r h
    show (nextF c ns rs (s + 1))[j]? = _
    rw [this, show s + 1 + j = s + (j + 1) by omega]

section
variable {L : Int} {N : LLI} {A : LB}
theorem next_at {c : List Int} {s : Nat} {r : List Int} (hr : N[s]? = some r) : cat (nextC N c) s = if cat c s = 0 then 0 else ((place (keyC c s r) (namesC N c) + 1 : Nat) : Int) := by
  have := nextF_get c (namesC N c) N 0 s r hr
  rw [Nat.zero_add] at this
  unfold cat nextC
  rw [this]; rfl
theorem key_mem {c : List Int} {s : Nat} {r : List Int} (hr : N[s]? = some r) (h0 : cat c s ≠ 0) : keyC c s r ∈ namesC N c := by
  unfold namesC
  rw [namesF_mem]
  exact .inr ⟨s, r, hr, by rw [Nat.zero_add]; exact h0, by rw [Nat.zero_add]⟩
theorem names_of {c : List Int} {q : List Int} (h : q ∈ namesC N c) : ∃ s r, N[s]? = some r ∧ cat c s ≠ 0 ∧ q = keyC c s r := by
  unfold namesC at h
  rw [namesF_mem] at h
  rcases h with h | ⟨j, r, h1, h2, h3⟩
  · cases h
  · rw [Nat.zero_add] at h2 h3; exact ⟨j, r, h1, h2, h3⟩

/-- equal keys: equal classes, and equal classes of what follows -/
theorem key_eq (h : W L N A) {c : List Int} {s t : Nat} {r r' : List Int} (hr : N[s]? = some r) (hr' : N[t]? = some r') :
    keyC c s r = keyC c t r' ↔ cat c s = cat c t ∧ ∀ x : Nat, (x : Int) < L → cget c (stp N s x) = cget c (stp N t x) := by
  have l1 := (h.row r (List.mem_of_getElem? hr)).1
  have l2 := (h.row r' (List.mem_of_getElem? hr')).1
  have hL := h.l1
  unfold keyC
  constructor
  · intro e
    simp only [List.cons.injEq] at e
    refine ⟨e.1, fun x hx => ?_⟩
    have e1 : r[x]? = some (stp N (s : Int) x) := by
      have hxl : x < r.length := by omega
      rw [stp_nat hr (List.getElem?_eq_getElem hxl), List.getElem?_eq_getElem hxl]
    have e2 : r'[x]? = some (stp N (t : Int) x) := by
      have hxl : x < r'.length := by omega
      rw [stp_nat hr' (List.getElem?_eq_getElem hxl), List.getElem?_eq_getElem hxl]
    have := congrArg (fun l => l[x]?) e.2
    simp only [List.getElem?_map, e1, e2, Option.map_some, Option.some.injEq] at this
    exact this
  · rintro ⟨e1, e2⟩
    rw [e1]
    congr 1
    apply List.ext_getElem?
    intro x
    by_cases hx : (x : Int) < L
    · have hxl : x < r.length := by omega
      have hxl' : x < r'.length := by omega
      have g1 : r[x]? = some (stp N (s : Int) x) := by rw [stp_nat hr (List.getElem?_eq_getElem hxl), List.getElem?_eq_getElem hxl]
      have g2 : r'[x]? = some (stp N (t : Int) x) := by rw [stp_nat hr' (List.getElem?_eq_getElem hxl'), List.getElem?_eq_getElem hxl']
      simp only [List.getElem?_map, g1, g2, Option.map_some]
      rw [e2 x hx]
    · rw [List.getElem?_eq_none (by simp; omega), List.getElem?_eq_none (by simp; omega)]

theorem cget_zero {c : List Int} (hc : Czero L N A c) {t : Int} (ht : -1 ≤ t ∧ t < N.length) : cget c t = 0 ↔ ¬ live L N A t := by
  unfold cget
  by_cases h0 : t < 0
  · rw [if_pos h0]
    exact ⟨fun _ hl => by have := live_nn hl; omega, fun _ => rfl⟩
  · rw [if_neg h0, hc.zero t.toNat (by omega), Int.toNat_of_nonneg (by omega)]

structure CInv (L : Int) (N : LLI) (A : LB) (c : List Int) (k : Nat) : Prop where
  z : Czero L N A c
  rng : ∀ s : Nat, 0 ≤ cat c s
  crs : ∀ s t : Nat, s < N.length → t < N.length → live L N A s → lang L N A s = lang L N A t → cat c s = cat c t
  ac : ∀ s t : Nat, s < N.length → t < N.length → live L N A s → cat c s = cat c t → acc A s = acc A t
  num : k = 0 ∨ ((∀ s : Nat, s < N.length → cat c s ≤ k) ∧ ∀ j : Nat, 1 ≤ j → j ≤ k → ∃ s : Nat, s < N.length ∧ cat c s = j)

theorem cget_crs {c : List Int} {k : Nat} (hi : CInv L N A c k) {s t : Int} (hs : -1 ≤ s ∧ s < N.length) (ht : -1 ≤ t ∧ t < N.length) (e : lang L N A s = lang L N A t) : cget c s = cget c t := by
  by_cases hl : live L N A s
  · have hl' : live L N A t := by unfold live at hl ⊢; rw [← e]; exact hl
    have h1 := live_nn hl; have h2 := live_nn hl'
    unfold cget
    rw [if_neg (by omega), if_neg (by omega)]
    have e1 : ((s.toNat : Nat) : Int) = s := Int.toNat_of_nonneg h1
    have e2 : ((t.toNat : Nat) : Int) = t := Int.toNat_of_nonneg h2
    exact hi.crs s.toNat t.toNat (by omega) (by omega) (by rw [e1]; exact hl) (by rw [e1, e2]; exact e)
  · have hl' : ¬ live L N A t := by unfold live at hl ⊢; rw [← e]; exact hl
    rw [(cget_zero hi.z hs).2 hl, (cget_zero hi.z ht).2 hl']

theorem next_inv (h : W L N A) {c : List Int} {k : Nat} (hi : CInv L N A c k) : CInv L N A (nextC N c) (namesC N c).length := by
  have hget : ∀ s : Nat, s < N.length → ∃ r, N[s]? = some r := fun s hs => ⟨_, List.getElem?_eq_getElem hs⟩
  have hz : ∀ s : Nat, s < N.length → (cat (nextC N c) s = 0 ↔ cat c s = 0) := by
    intro s hs
    obtain ⟨r, hr⟩ := hget s hs
    rw [next_at hr]
    by_cases h0 : cat c s = 0
    · rw [if_pos h0]; exact ⟨fun _ => h0, fun _ => rfl⟩
    · rw [if_neg h0]; exact ⟨fun e => by omega, fun e => absurd e h0⟩
  refine ⟨⟨next_len N c, fun s hs => by rw [hz s hs]; exact hi.z.zero s hs⟩, ?_, ?_, ?_, ?_⟩
  · intro s
    by_cases hs : s < N.length
    · obtain ⟨r, hr⟩ := hget s hs
      rw [next_at hr]; split <;> omega
    · unfold cat
      rw [List.getElem?_eq_none (by rw [next_len]; omega)]; exact Int.le_refl _
  · intro s t hs ht hl e
    obtain ⟨r, hr⟩ := hget s hs
    obtain ⟨r', hr'⟩ := hget t ht
    have h1 := hi.crs s t hs ht hl e
    have : keyC c s r = keyC c t r' := by
      rw [key_eq h hr hr']
      refine ⟨h1, fun x hx => cget_crs hi (stp_W h ⟨by omega, by omega⟩ hx).1 (stp_W h ⟨by omega, by omega⟩ hx).1 ?_⟩
      rw [← lang_der hx, ← lang_der hx, e]
    rw [next_at hr, next_at hr', h1, this]
  · intro s t hs ht hl e
    obtain ⟨r, hr⟩ := hget s hs
    obtain ⟨r', hr'⟩ := hget t ht
    have h0 : cat c s ≠ 0 := fun h0 => (hi.z.zero s hs).1 h0 hl
    have h1 : cat c t ≠ 0 := by
      intro h1
      have := (hz t ht).2 h1
      rw [this] at e
      exact h0 ((hz s hs).1 e)
    rw [next_at hr, next_at hr', if_neg h0, if_neg h1] at e
    have hp : place (keyC c s r) (namesC N c) = place (keyC c t r') (namesC N c) := by omega
    have := place_inj (key_mem hr h0) (key_mem hr' h1) hp
    exact hi.ac s t hs ht hl ((key_eq h hr hr').1 this).1
  · refine .inr ⟨fun s hs => ?_, fun j hj1 hj2 => ?_⟩
    · obtain ⟨r, hr⟩ := hget s hs
      rw [next_at hr]
      by_cases h0 : cat c s = 0
      · rw [if_pos h0]; omega
      · rw [if_neg h0]
        have := (place_mem (key_mem hr h0)).2
        omega
    · have hjl : j - 1 < (namesC N c).length := by omega
      have hq := List.getElem?_eq_getElem hjl
      obtain ⟨s, r, h1, h2, h3⟩ := names_of (List.mem_of_getElem? hq)
      refine ⟨s, (List.getElem?_eq_some_iff.1 h1).1, ?_⟩
      rw [next_at h1, if_neg h2, ← h3, place_at (l := namesC N c) (namesF_nodup c N 0 [] (by simp)) hq]
      omega

/-- no fewer names than before; if they are as many, nothing is refined -/
theorem next_count (h : W L N A) {c : List Int} {k : Nat} (hi : CInv L N A c k) : k ≤ (namesC N c).length ∧
    ((namesC N c).length = k → ∀ s t : Nat, s < N.length → t < N.length → cat c s ≠ 0 → cat c s = cat c t → cat (nextC N c) s = cat (nextC N c) t) := by
  have hget : ∀ s : Nat, s < N.length → ∃ r, N[s]? = some r := fun s hs => ⟨_, List.getElem?_eq_getElem hs⟩
  rcases hi.num with h0 | ⟨hle, hex⟩
  · subst h0
    refine ⟨by omega, fun hl s t hs ht hc _ => ?_⟩
    obtain ⟨r, hr⟩ := hget s hs
    have := key_mem hr hc
    have h0 : namesC N c = [] := List.length_eq_zero_iff.1 hl
    rw [h0] at this; cases this
  · have hinj : ∀ s t : Nat, s < N.length → t < N.length → cat c s ≠ 0 → cat (nextC N c) s = cat (nextC N c) t → cat c s = cat c t := by
      intro s t hs ht h0 e
      obtain ⟨r, hr⟩ := hget s hs
      obtain ⟨r', hr'⟩ := hget t ht
      by_cases h1 : cat c t = 0
      · rw [next_at hr, next_at hr', if_neg h0, if_pos h1] at e; omega
      · rw [next_at hr, next_at hr', if_neg h0, if_neg h1] at e
        exact ((key_eq h hr hr').1 (place_inj (key_mem hr h0) (key_mem hr' h1) (by omega))).1
    have hval : ∀ s : Nat, s < N.length → cat c s ≠ 0 → 1 ≤ cat (nextC N c) s ∧ cat (nextC N c) s ≤ (namesC N c).length := by
      intro s hs h0
      obtain ⟨r, hr⟩ := hget s hs
      rw [next_at hr, if_neg h0]
      have := (place_mem (key_mem hr h0)).2
      omega
    let rep : Nat → Nat := fun j => if hj : 1 ≤ j ∧ j ≤ k then (hex j hj.1 hj.2).choose else 0
    have hrep : ∀ j, 1 ≤ j → j ≤ k → rep j < N.length ∧ cat c (rep j) = j := by
      intro j h1 h2
      have e : rep j = (hex j h1 h2).choose := by show (if hj : _ then _ else _) = _; rw [dif_pos ⟨h1, h2⟩]
      rw [e]; exact (hex j h1 h2).choose_spec
    let g : Nat → Nat := fun j => (cat (nextC N c) (rep (j + 1))).toNat - 1
    have hg : ∀ j, j < k → g j < (namesC N c).length ∧ ((g j + 1 : Nat) : Int) = cat (nextC N c) (rep (j + 1)) := by
      intro j hj
      obtain ⟨h1, h2⟩ := hrep (j + 1) (by omega) (by omega)
      have := hval _ h1 (by omega)
      show (cat (nextC N c) (rep (j + 1))).toNat - 1 < _ ∧ (((cat (nextC N c) (rep (j + 1))).toNat - 1 + 1 : Nat) : Int) = _
      omega
    have hgi : ∀ i j, i < k → j < k → g i = g j → i = j := by
      intro i j hi' hj e
      have h1 := (hg i hi').2
      have h2 := (hg j hj).2
      obtain ⟨a1, a2⟩ := hrep (i + 1) (by omega) (by omega)
      obtain ⟨b1, b2⟩ := hrep (j + 1) (by omega) (by omega)
      have := hinj _ _ a1 b1 (by omega) (by rw [← h1, ← h2, e])
      omega
    have hnd : ((List.range k).map g).Nodup := by
      have := @List.nodup_range k
      unfold List.Nodup at this ⊢
      rw [List.pairwise_map]
      refine List.Pairwise.imp_of_mem ?_ this
      intro x y hx hy hne e
      simp only [List.mem_range] at hx hy
      exact hne (hgi x y hx hy e)
    have hlt : ∀ x ∈ (List.range k).map g, x < (namesC N c).length := by
      intro x hx
      simp only [List.mem_map, List.mem_range] at hx
      obtain ⟨j, hj, rfl⟩ := hx
      exact (hg j hj).1
    refine ⟨by have := nodup_le _ _ hnd hlt; simpa using this, fun hk => ?_⟩
    have hsur : ∀ s : Nat, s < N.length → cat c s ≠ 0 → cat (nextC N c) s = cat (nextC N c) (rep (cat c s).toNat) := by
      intro s hs h0
      have hv := hval s hs h0
      have hmem : (cat (nextC N c) s).toNat - 1 ∈ (List.range k).map g := by
        refine Classical.byContradiction fun hn => ?_
        have := nodup_le (namesC N c).length (((cat (nextC N c) s).toNat - 1) :: (List.range k).map g) (by rw [List.nodup_cons]; exact ⟨hn, hnd⟩) (by
          intro x hx
          rcases List.mem_cons.1 hx with rfl | hx
          · omega
          · exact hlt x hx)
        simp at this; omega
      simp only [List.mem_map, List.mem_range] at hmem
      obtain ⟨j, hj, e⟩ := hmem
      have h2 := (hg j hj).2
      obtain ⟨a1, a2⟩ := hrep (j + 1) (by omega) (by omega)
      have h3 : cat (nextC N c) s = cat (nextC N c) (rep (j + 1)) := by rw [← h2]; omega
      have h4 := hinj s _ hs a1 h0 h3
      rw [h3, h4, a2, Int.toNat_natCast]
    intro s t hs ht h0 e
    rw [hsur s hs h0, hsur t ht (by rw [← e]; exact h0), e]

/-- classes as they are to be -/
structure Cls (L : Int) (N : LLI) (A : LB) (v : List Int) : Prop where
  z : Czero L N A v
  eq : ∀ s t : Nat, s < N.length → t < N.length → live L N A s → live L N A t → (cat v s = cat v t ↔ lang L N A s = lang L N A t)

theorem cls_end (h : W L N A) {c : List Int} {k : Nat} (hi : CInv L N A c k) (hk : (namesC N c).length = k) : Cls L N A (nextC N c) := by
  have hn := next_inv h hi
  refine ⟨hn.z, fun s t hs ht hls hlt => ⟨fun e => ?_, fun e => hn.crs s t hs ht hls e⟩⟩
  have hst := (next_count h hi).2 hk
  have hget : ∀ s : Nat, s < N.length → ∃ r, N[s]? = some r := fun s hs => ⟨_, List.getElem?_eq_getElem hs⟩
  have hkey : ∀ s t : Nat, s < N.length → t < N.length → live L N A s → cat (nextC N c) s = cat (nextC N c) t → cat c s = cat c t ∧ ∀ x : Nat, (x : Int) < L → cget c (stp N s x) = cget c (stp N t x) := by
    intro s t hs ht hls e
    obtain ⟨r, hr⟩ := hget s hs
    obtain ⟨r', hr'⟩ := hget t ht
    have h0 : cat c s ≠ 0 := fun h0 => (hi.z.zero s hs).1 h0 hls
    by_cases h1 : cat c t = 0
    · rw [next_at hr, next_at hr', if_neg h0, if_pos h1] at e; omega
    · rw [next_at hr, next_at hr', if_neg h0, if_neg h1] at e
      exact (key_eq h hr hr').1 (place_inj (key_mem hr h0) (key_mem hr' h1) (by omega))
  have key : ∀ (w : List Nat), Wd L w → ∀ s t : Nat, s < N.length → t < N.length → live L N A s → cat c s = cat c t → acc A (run N s w) = acc A (run N t w) := by
    intro w
    induction w with
    | nil => intro _ s t hs ht hls e; exact hi.ac s t hs ht hls e
    | cons x w ih =>
      intro hw s t hs ht hls e
      have hx : (x : Int) < L := hw x List.mem_cons_self
      have hw' : Wd L w := fun y hy => hw y (List.mem_cons_of_mem _ hy)
      have h0 : cat c s ≠ 0 := fun h0 => (hi.z.zero s hs).1 h0 hls
      have hk2 := (hkey s t hs ht hls (hst s t hs ht h0 e)).2 x hx
      have r1 := (stp_W h (s := (s : Int)) ⟨by omega, by omega⟩ hx).1
      have r2 := (stp_W h (s := (t : Int)) ⟨by omega, by omega⟩ hx).1
      show acc A (run N (stp N s x) w) = acc A (run N (stp N t x) w)
      by_cases hl : live L N A (stp N s x)
      · have hl2 : live L N A (stp N t x) := by
          refine Classical.byContradiction fun hn => ?_
          have := (cget_zero hi.z r2).2 hn
          rw [this] at hk2
          exact (cget_zero hi.z r1).1 hk2 hl
        have n1 := live_nn hl
        have n2 := live_nn hl2
        unfold cget at hk2
        rw [if_neg (by omega), if_neg (by omega)] at hk2
        have := ih hw' (stp N s x).toNat (stp N t x).toNat (by omega) (by omega) (by rw [Int.toNat_of_nonneg n1]; exact hl) hk2
        rw [Int.toNat_of_nonneg n1, Int.toNat_of_nonneg n2] at this
        exact this
      · have hl2 : ¬ live L N A (stp N t x) := by
          have := (cget_zero hi.z r1).2 hl
          rw [this] at hk2
          exact (cget_zero hi.z r2).1 hk2.symm
        have e1 : lang L N A (stp N s x) = emp := Classical.byContradiction hl
        have e2 : lang L N A (stp N t x) = emp := Classical.byContradiction hl2
        rw [← lang_wd hw', ← lang_wd hw', e1, e2]
  have hc := (hkey s t hs ht hls e).1
  funext w
  by_cases hw : Wd L w
  · rw [lang_wd hw, lang_wd hw]; exact key w hw s t hs ht hls hc
  · unfold lang
    have : wdB L w = false := by
      cases hx : wdB L w with
      | false => rfl
      | true => exact absurd (wdB_iff.1 hx) hw
    rw [this]; rfl

theorem cls_loop (h : W L N A) {S : Int} : ∀ (f k : Nat) (c : List Int), CInv L N A c k → N.length < k + f → ∃ v, Cls L N A v ∧ automaton_classes.l12 (k : Int) L S N A c = some (v, ())
  | 0, k, c, hi, hf => by
    have := (next_count h hi).1
    have := names_le N c
    omega
  | f + 1, k, c, hi, hf => by
    have h1 := (next_count h hi).1
    rw [classes_l12 h hi.z]
    unfold finP
    by_cases e : (namesC N c).length = k
    · rw [ifB_of _ _ (by rw [e]; exact beq_self_eq_true _)]
      exact ⟨_, cls_end h hi e, rfl⟩
    · rw [ifB_not _ _ (beq_eq_false_iff_ne.2 (by omega))]
      exact cls_loop h f _ _ (next_inv h hi) (by omega)
/-! ### the classes at the start -/
def one0 (l a : Bool) : Int := bif l then (bif a then 2 else 1) else 0
def ini (lv A : LB) : List Int := List.zipWith one0 lv A
theorem ini_get (h : W L N A) {lv : LB} (hlv : LvOk L N A lv) {s : Nat} (hs : s < N.length) : ∃ l a, lv[s]? = some l ∧ A[s]? = some a ∧ (l = true ↔ live L N A (s : Int)) ∧ (a = true → l = true) ∧ cat (ini lv A) s = one0 l a ∧ acc A (s : Int) = a := by
  have h1 : s < lv.length := by rw [hlv.1]; exact hs
  have h2 : s < A.length := by rw [h.a]; exact hs
  have e1 := List.getElem?_eq_getElem h1
  have e2 := List.getElem?_eq_getElem h2
  have hl := hlv.2 s hs
  rw [e1] at hl
  simp only [Option.some.injEq] at hl
  have ha := acc_nat A s
  rw [e2] at ha
  simp only [Option.some.injEq] at ha
  refine ⟨lv[s], A[s], e1, e2, hl, fun e => hl.2 (live_acc (ha.2 e)), ?_, ?_⟩
  · unfold cat ini
    rw [List.getElem?_zipWith, e1, e2]; rfl
  · cases hx : A[s] with
    | true => exact ha.2 hx
    | false =>
      cases hy : acc A (s : Int) with
      | false => rfl
      | true => have := ha.1 hy; rw [hx] at this; cases this
theorem ini_inv (h : W L N A) {lv : LB} (hlv : LvOk L N A lv) : CInv L N A (ini lv A) 0 := by
  have hlen : (ini lv A).length = N.length := by unfold ini; rw [List.length_zipWith, hlv.1, h.a]; omega
  have hz : ∀ s : Nat, s < N.length → (cat (ini lv A) s = 0 ↔ ¬ live L N A (s : Int)) := by
    intro s hs
    obtain ⟨l, a, h1, h2, h3, h4, h5, h6⟩ := ini_get h hlv hs
    rw [h5, ← h3]
    unfold one0
    cases l <;> cases a <;> simp
  refine ⟨⟨hlen, hz⟩, ?_, ?_, ?_, .inl rfl⟩
  · intro s
    by_cases hs : s < N.length
    · obtain ⟨l, a, h1, h2, h3, h4, h5, h6⟩ := ini_get h hlv hs
      rw [h5]; unfold one0; cases l <;> cases a <;> decide
    · unfold cat; rw [List.getElem?_eq_none (by rw [hlen]; omega)]; exact Int.le_refl _
  · intro s t hs ht hl e
    obtain ⟨l, a, h1, h2, h3, h4, h5, h6⟩ := ini_get h hlv hs
    obtain ⟨l', a', g1, g2, g3, g4, g5, g6⟩ := ini_get h hlv ht
    have : acc A (s : Int) = acc A (t : Int) := congrFun e []
    rw [h6, g6] at this
    have hl' : live L N A (t : Int) := by unfold live at hl ⊢; rw [← e]; exact hl
    rw [h5, g5, this, h3.2 hl, g3.2 hl']
  · intro s t hs ht hl e
    obtain ⟨l, a, h1, h2, h3, h4, h5, h6⟩ := ini_get h hlv hs
    obtain ⟨l', a', g1, g2, g3, g4, g5, g6⟩ := ini_get h hlv ht
    rw [h5, g5, h3.2 hl] at e
    rw [h6, g6]
    unfold one0 at e
    cases l' <;> cases a <;> cases a' <;> simp_all

theorem take_set {xs : List Int} {i : Nat} (hi : i < xs.length) (n : Nat) (x : Int) (hx : xs[i]? = some x) (f : Nat) : (xs.take i ++ List.replicate (f + 1) 0).set i x = xs.take (i + 1) ++ List.replicate f 0 := by
  have hl : (xs.take i).length = i := by simp; omega
  rw [List.set_append_right _ _ (by omega), hl, Nat.sub_self, List.replicate_succ, List.set_cons_zero, List.take_succ_eq_append_getElem hi]
  rw [List.getElem?_eq_getElem hi] at hx
  cases hx
  rw [List.append_assoc]; rfl

theorem cls_l4 (h : W L N A) {S : Int} {lv : LB} (hlv : LvOk L N A lv) : ∀ (f i : Nat), i + f = N.length →
    automaton_classes.l4 (N.length : Nat) (i : Int) L S N A lv ((ini lv A).take i ++ List.replicate f 0) = automaton_classes.l12 0 L S N A (ini lv A)
  | 0, i, hf => by
    have hlen := (ini_inv h hlv).z.len
    rw [automaton_classes.l4_eq, ifB_not _ _ (decide_eq_false (by omega)), List.take_of_length_le (by omega)]; simp
  | f + 1, i, hf => by
    have hlen := (ini_inv h hlv).z.len
    have hn := h.n
    have hi : i < N.length := by omega
    obtain ⟨l, a, h1, h2, h3, h4, h5, h6⟩ := ini_get h hlv hi
    have hxs : (ini lv A)[i]? = some (one0 l a) := by rw [cat_at (by omega), h5]
    have hr := cls_l4 h (S := S) hlv f (i + 1) (by omega)
    have hts := take_set (by omega : i < (ini lv A).length) 0 _ hxs f
    have hcl : ((ini lv A).take i ++ List.replicate (f + 1) (0 : Int)).length = N.length := by simp; omega
    have g1 : ∀ c : List Int, c.length = N.length → ∃ z, ixAt c (i : Int) = some z := fun c hc => ⟨_, ixAt_lt (by omega)⟩
    obtain ⟨z1, hz1⟩ := g1 _ hcl
    have e1 : ixAt lv (i : Int) = some l := by rw [ixAt_nat, h1]
    have e2 : ixAt A (i : Int) = some a := by rw [ixAt_nat, h2]
    rw [automaton_classes.l4_eq, ifB_of _ _ (decide_eq_true (by omega)), e1]
    simp only [bindD_some]
    rw [e2, hz1]
    simp only [bindD_some]
    rw [w64_succ (by omega)]
    cases l with
    | true =>
      cases a with
      | true =>
        have hs2 : ixAt (setRow ((ini lv A).take i ++ List.replicate (f + 1) (0 : Int)) (i : Int) 1) (i : Int) = some 1 := by
          rw [setRow_nat, ixAt_nat, get_set, if_pos rfl, if_pos (by omega)]
        simp only [ifB_true]
        rw [hs2]
        simp only [bindD_some]
        rw [setRow_nat, setRow_nat, List.set_set]
        rw [← hr]
        congr 1
      | false =>
        simp only [ifB_true, ifB_false]
        rw [setRow_nat, ← hr]
        congr 1
    | false =>
      cases a with
      | true => cases h4 rfl
      | false =>
        simp only [ifB_false]
        rw [← hr]
        congr 1
        rw [← hts]
        show _ = (_ : List Int).set i 0
        rw [List.set_append_right _ _ (by simp; omega)]
        have : i - (List.take i (ini lv A)).length = 0 := by simp; omega
        rw [this, List.replicate_succ, List.set_cons_zero]

theorem classes_f (h : W L N A) (S : Int) : ∃ v, Cls L N A v ∧ automaton_classes.f L S N A = some (v, ()) := by
  obtain ⟨lv, hlv, hu⟩ := useful_f h S
  have hn := h.n
  obtain ⟨v, h1, h2⟩ := cls_loop h (S := S) (N.length + 1) 0 (ini lv A) (ini_inv h hlv) (by omega)
  refine ⟨v, h1, ?_⟩
  rw [automaton_classes.f_eq, hu]
  simp only [bindD_some]
  rw [mkLen_ok (by omega)]
  simp only [bindD_some]
  have := cls_l4 h (S := S) hlv N.length 0 (by omega)
  rw [List.take_zero, List.nil_append, show ((0 : Nat) : Int) = 0 from rfl] at this
  rw [List.length_replicate, this]
  exact h2
end
end Go.Proofs.C07.M
