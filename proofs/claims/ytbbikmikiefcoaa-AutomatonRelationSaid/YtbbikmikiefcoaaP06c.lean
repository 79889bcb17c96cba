/- Plain words for the chapter of automata: two automata side by side. -/
import Derived.Test.YtbbikmikiefcoaaP06b
set_option linter.unusedVariables false
set_option linter.unusedSimpArgs false
namespace Go.Proofs.C06
open Go Go.Proofs.R
set_option linter.unusedVariables false
set_option linter.unusedSimpArgs false
set_option maxRecDepth 100000

abbrev Pr := Int × Int
abbrev Vis := Pr × Pr
abbrev TP : Ty := .pair (.int .i64) (.int .i64)

/-! ### maps whose keys are pairs -/
theorem keyEq_pair (x y : Pr) : keyEq TP x y = decide (x = y) := by
  obtain ⟨a, b⟩ := x; obtain ⟨c, d⟩ := y
  show (decide (a = c) && decide (b = d)) = _
  by_cases h1 : a = c <;> by_cases h2 : b = d <;> simp [h1, h2]
theorem mget_mput {β : Type} (z : β) (q q' : Pr) (v : β) : ∀ m : List (Pr × β), (mget TP z q' (mput TP q v m)).1 = if q' = q then v else (mget TP z q' m).1
  | [] => by
    simp only [mput, mget, keyEq_pair]
    by_cases h : q' = q <;> simp [h]
  | p :: m => by
    simp only [mput, mget, keyEq_pair]
    by_cases h1 : q = p.1
    · simp only [h1, decide_true, cond_true, mget, keyEq_pair]
      by_cases h2 : q' = p.1 <;> simp [h2]
    · simp only [h1, decide_false, cond_false, mget, keyEq_pair]
      by_cases h2 : q' = p.1
      · have h3 : ¬ q' = q := fun e => h1 (e ▸ h2)
        rw [if_neg h3]; simp [h2]
      · simp only [h2, decide_false, cond_false]
        exact mget_mput z q q' v m

/-! ### lists of numbers without repetition -/
theorem nodup_le : ∀ (n : Nat) (l : List Nat), l.Nodup → (∀ x ∈ l, x < n) → l.length ≤ n
  | 0, l, _, h => by
    cases l with
    | nil => simp
    | cons a l => have := h a (by simp); omega
  | n + 1, l, hd, h => by
    by_cases hn : n ∈ l
    · have h1 := nodup_le n (l.erase n) (hd.erase n) (fun x hx => by
        have h2 := List.mem_of_mem_erase hx
        have h3 : x ≠ n := by
          rintro rfl
          exact (List.Nodup.mem_erase_iff hd).1 hx |>.1 rfl
        have := h x h2
        omega)
      rw [List.length_erase_of_mem hn] at h1
      omega
    · have := nodup_le n l hd (fun x hx => by
        have h3 : x ≠ n := by rintro rfl; exact hn hx
        have := h x hx
        omega)
      omega

/-! ### the walk -/
def nx (Na Nb : LLI) (p : Pr) (c : Nat) : Pr := (stp Na p.1 c, stp Nb p.2 c)
def inU (Na Nb : LLI) (p : Pr) : Prop := (-1 ≤ p.1 ∧ p.1 < Na.length) ∧ (-1 ≤ p.2 ∧ p.2 < Nb.length)
def has (l : List Vis) (q : Pr) : Bool := l.any fun v => decide (v.1 = q)

section
variable (g : Pr → Bool) (L : Int) (Na Nb : LLI)
def one (i c : Nat) (l : List Vis) : List Vis :=
  match l[i]? with
  | some v => bif g (nx Na Nb v.1 c) && !has l (nx Na Nb v.1 c) then l ++ [(nx Na Nb v.1 c, ((i : Int), (c : Int)))] else l
  | none => l
def rowV (i : Nat) : Nat → Nat → List Vis → List Vis
  | 0, _, l => l
  | f + 1, c, l => rowV i f (c + 1) (one g Na Nb i c l)
def bfs : Nat → Nat → List Vis → List Vis
  | 0, _, l => l
  | f + 1, i, l => if i < l.length then bfs f (i + 1) (rowV g Na Nb i L.toNat 0 l) else l

structure Inv (p0 : Pr) (l : List Vis) : Prop where
  nd : (l.map (·.1)).Nodup
  u : ∀ v ∈ l, inU Na Nb v.1
  g : ∀ v ∈ l, g v.1 = true
  h0 : l[0]? = some (p0, (-1, 0))
  tree : ∀ j v, 0 < j → l[j]? = some v → ∃ b c : Nat, v.2 = ((b : Int), (c : Int)) ∧ b < j ∧ (c : Int) < L ∧ ∃ w, l[b]? = some w ∧ v.1 = nx Na Nb w.1 c
end

theorem has_iff {l : List Vis} {q : Pr} : has l q = true ↔ q ∈ l.map (·.1) := by
  unfold has
  simp only [List.any_eq_true, decide_eq_true_eq, List.mem_map]
theorem has_app (l : List Vis) (q p : Pr) (x : Pr) : has (l ++ [(q, x)]) p = (has l p || decide (p = q)) := by
  unfold has
  rw [List.any_append]
  congr 1
  simp [eq_comm]

section
variable {g : Pr → Bool} {L Sa Sb : Int} {Na Nb : LLI} {Aa Ab : LB} {p0 : Pr}

theorem one_pre (i c : Nat) (l : List Vis) : ∃ e, one g Na Nb i c l = l ++ e := by
  unfold one
  split
  · cases (g (nx Na Nb _ c) && !has l (nx Na Nb _ c)) with
    | true => exact ⟨_, rfl⟩
    | false => exact ⟨[], by simp⟩
  · exact ⟨[], by simp⟩
theorem rowV_pre (i : Nat) : ∀ (f c : Nat) (l : List Vis), ∃ e, rowV g Na Nb i f c l = l ++ e
  | 0, _, l => ⟨[], by simp [rowV]⟩
  | f + 1, c, l => by
    obtain ⟨e1, h1⟩ := one_pre (g := g) (Na := Na) (Nb := Nb) i c l
    obtain ⟨e2, h2⟩ := rowV_pre i f (c + 1) (one g Na Nb i c l)
    exact ⟨e1 ++ e2, by simp only [rowV]; rw [h2, h1, List.append_assoc]⟩
theorem nx_U (ha : V L Sa Na Aa) (hb : V L Sb Nb Ab) {p : Pr} (hp : inU Na Nb p) {c : Nat} (hc : (c : Int) < L) : inU Na Nb (nx Na Nb p c) :=
  ⟨(stp_get ha hp.1 hc).1, (stp_get hb hp.2 hc).1⟩

theorem one_inv (ha : V L Sa Na Aa) (hb : V L Sb Nb Ab) {l : List Vis} (h : Inv g L Na Nb p0 l) {i c : Nat} (hi : i < l.length) (hc : (c : Int) < L) : Inv g L Na Nb p0 (one g Na Nb i c l) := by
  unfold one
  have hv : l[i]? = some l[i] := List.getElem?_eq_getElem hi
  rw [hv]
  simp only
  cases hg : (g (nx Na Nb l[i].1 c) && !has l (nx Na Nb l[i].1 c)) with
  | false => exact h
  | true =>
    simp only [Bool.and_eq_true, Bool.not_eq_true'] at hg
    have hU : inU Na Nb (nx Na Nb l[i].1 c) := nx_U ha hb (h.u _ (List.getElem_mem hi)) hc
    refine ⟨?_, ?_, ?_, ?_, ?_⟩
    · simp only [cond_true, List.map_append, List.map_cons, List.map_nil]
      rw [List.nodup_append]
      refine ⟨h.nd, by simp, ?_⟩
      intro x hx y hy
      simp only [List.mem_cons, List.not_mem_nil, or_false] at hy
      subst hy
      rintro rfl
      have := has_iff.2 hx
      rw [hg.2] at this; cases this
    · intro v hv
      rcases List.mem_append.1 hv with hv | hv
      · exact h.u v hv
      · simp only [List.mem_cons, List.not_mem_nil, or_false] at hv; subst hv; exact hU
    · intro v hv
      rcases List.mem_append.1 hv with hv | hv
      · exact h.g v hv
      · simp only [List.mem_cons, List.not_mem_nil, or_false] at hv; subst hv; exact hg.1
    · simp only [cond_true]
      rw [List.getElem?_append_left (by omega)]; exact h.h0
    · intro j v hj hjv
      simp only [cond_true] at hjv ⊢
      by_cases hjl : j < l.length
      · rw [List.getElem?_append_left hjl] at hjv
        obtain ⟨b, c', h1, h2, h3, w, h4, h5⟩ := h.tree j v hj hjv
        exact ⟨b, c', h1, h2, h3, w, by rw [List.getElem?_append_left (by omega)]; exact h4, h5⟩
      · have hjl' : j = l.length := by
          have := (List.getElem?_eq_some_iff.1 hjv).1
          simp only [List.length_append, List.length_cons, List.length_nil] at this
          omega
        subst hjl'
        rw [List.getElem?_append_right (Nat.le_refl _)] at hjv
        simp only [Nat.sub_self, List.getElem?_cons_zero, Option.some.injEq] at hjv
        subst hjv
        exact ⟨i, c, rfl, hi, hc, l[i], by rw [List.getElem?_append_left hi]; exact hv, rfl⟩

theorem one_len (i c : Nat) (l : List Vis) : l.length ≤ (one g Na Nb i c l).length := by
  obtain ⟨e, h⟩ := one_pre (g := g) (Na := Na) (Nb := Nb) i c l
  rw [h, List.length_append]; omega
theorem rowV_inv (ha : V L Sa Na Aa) (hb : V L Sb Nb Ab) {i : Nat} : ∀ (f c : Nat) {l : List Vis}, Inv g L Na Nb p0 l → i < l.length → (c : Int) + f = L → Inv g L Na Nb p0 (rowV g Na Nb i f c l)
  | 0, c, l, h, _, _ => h
  | f + 1, c, l, h, hi, hc => by
    simp only [rowV]
    refine rowV_inv ha hb f (c + 1) (one_inv ha hb h hi (by omega)) ?_ (by omega)
    have := one_len (g := g) (Na := Na) (Nb := Nb) i c l
    omega

def code (p : Pr) : Nat := (p.1 + 1).toNat * 401 + (p.2 + 1).toNat
theorem inv_len (ha : V L Sa Na Aa) (hb : V L Sb Nb Ab) {l : List Vis} (h : Inv g L Na Nb p0 l) : l.length ≤ 160801 := by
  have h1 : ((l.map (·.1)).map code).Nodup := by
    have := h.nd
    unfold List.Nodup at this ⊢
    rw [List.pairwise_map]
    refine List.Pairwise.imp_of_mem ?_ this
    intro x y hx hy hne e
    apply hne
    simp only [List.mem_map] at hx hy
    obtain ⟨v, hv, rfl⟩ := hx
    obtain ⟨w, hw, rfl⟩ := hy
    have h2 := h.u v hv
    have h3 := h.u w hw
    have := ha.n; have := hb.n
    unfold inU at h2 h3
    unfold code at e
    have e1 : v.1.1 = w.1.1 := by omega
    have e2 : v.1.2 = w.1.2 := by omega
    exact Prod.ext e1 e2
  have h2 := nodup_le 160801 _ h1 (by
    intro x hx
    simp only [List.mem_map] at hx
    obtain ⟨p, ⟨v, hv, rfl⟩, rfl⟩ := hx
    have h2 := h.u v hv
    have := ha.n; have := hb.n
    unfold inU at h2
    unfold code
    omega)
  simpa using h2

/-- what has been looked at -/
def Done (g : Pr → Bool) (L : Int) (Na Nb : LLI) (i : Nat) (l : List Vis) : Prop := ∀ j v, j < i → l[j]? = some v → ∀ c : Nat, (c : Int) < L → g (nx Na Nb v.1 c) = true → has l (nx Na Nb v.1 c) = true
theorem has_pre {l e : List Vis} {q : Pr} (h : has l q = true) : has (l ++ e) q = true := by
  unfold has at h ⊢
  rw [List.any_append, h]; rfl
theorem one_has {i c : Nat} {l : List Vis} {v : Vis} (hv : l[i]? = some v) (hg : g (nx Na Nb v.1 c) = true) : has (one g Na Nb i c l) (nx Na Nb v.1 c) = true := by
  unfold one
  rw [hv]
  simp only [hg, Bool.true_and]
  cases hh : has l (nx Na Nb v.1 c) with
  | true => exact hh
  | false => simp [has_app, hh]
theorem rowV_has {i : Nat} : ∀ (f c : Nat) {l : List Vis} {v : Vis}, l[i]? = some v → ∀ c' : Nat, c ≤ c' → c' < c + f → g (nx Na Nb v.1 c') = true → has (rowV g Na Nb i f c l) (nx Na Nb v.1 c') = true
  | 0, c, l, v, hv, c', h1, h2, _ => by omega
  | f + 1, c, l, v, hv, c', h1, h2, hg => by
    simp only [rowV]
    obtain ⟨e, he⟩ := one_pre (g := g) (Na := Na) (Nb := Nb) i c l
    by_cases hc : c' = c
    · subst hc
      obtain ⟨e2, he2⟩ := rowV_pre (g := g) (Na := Na) (Nb := Nb) i f (c' + 1) (one g Na Nb i c' l)
      rw [he2]
      exact has_pre (one_has hv hg)
    · refine rowV_has f (c + 1) ?_ c' (by omega) (by omega) hg
      rw [he, List.getElem?_append_left (List.getElem?_eq_some_iff.1 hv).1]; exact hv

theorem bfs_facts (ha : V L Sa Na Aa) (hb : V L Sb Nb Ab) : ∀ (f i : Nat) {l : List Vis}, Inv g L Na Nb p0 l → Done g L Na Nb i l → 160801 ≤ i + f → Inv g L Na Nb p0 (bfs g L Na Nb f i l) ∧ Done g L Na Nb (bfs g L Na Nb f i l).length (bfs g L Na Nb f i l)
  | 0, i, l, h, hd, hf => by
    refine ⟨h, fun j v hj => hd j v ?_⟩
    have := inv_len ha hb h
    simp only [bfs] at hj
    omega
  | f + 1, i, l, h, hd, hf => by
    simp only [bfs]
    split
    · rename_i hi
      have hL := ha.l1
      refine bfs_facts ha hb f (i + 1) (rowV_inv ha hb L.toNat 0 h hi (by omega)) ?_ (by omega)
      intro j v hj hv c hc hg
      obtain ⟨e, he⟩ := rowV_pre (g := g) (Na := Na) (Nb := Nb) i L.toNat 0 l
      rw [he, List.getElem?_append_left (by omega)] at hv
      by_cases hji : j = i
      · subst hji
        exact rowV_has L.toNat 0 hv c (by omega) (by omega) hg
      · rw [he]; exact has_pre (hd j v (by omega) hv c hc hg)
    · rename_i hi
      exact ⟨h, fun j v hj => hd j v (by omega)⟩

/-! ### words -/
def runP (Na Nb : LLI) (p : Pr) (w : List Nat) : Pr := w.foldl (nx Na Nb) p
theorem runP_snoc (p : Pr) (w : List Nat) (c : Nat) : runP Na Nb p (w ++ [c]) = nx Na Nb (runP Na Nb p w) c := by unfold runP; rw [List.foldl_append]; rfl
def Wd (L : Int) (w : List Nat) : Prop := ∀ c ∈ w, (c : Int) < L
theorem Wd.snoc {w : List Nat} {c : Nat} (h : Wd L w) (hc : (c : Int) < L) : Wd L (w ++ [c]) := by
  intro x hx
  rcases List.mem_append.1 hx with hx | hx
  · exact h x hx
  · simp at hx; subst hx; exact hc

theorem inv_word {l : List Vis} (h : Inv g L Na Nb p0 l) : ∀ (j : Nat) (v : Vis), l[j]? = some v → ∃ w, Wd L w ∧ runP Na Nb p0 w = v.1 := by
  intro j
  induction j using Nat.strongRecOn with
  | ind j ih =>
    intro v hv
    by_cases h0 : j = 0
    · subst h0
      rw [h.h0] at hv; cases hv
      exact ⟨[], by simp [Wd], rfl⟩
    · obtain ⟨b, c, _, h2, h3, u, h4, h5⟩ := h.tree j v (by omega) hv
      obtain ⟨w, w1, w2⟩ := ih b h2 u h4
      exact ⟨w ++ [c], w1.snoc h3, by rw [runP_snoc, w2, h5]⟩

/-- what is found is what words lead to -/
theorem found_iff {l : List Vis} (h : Inv g L Na Nb p0 l) (hd : Done g L Na Nb l.length l) (hg : ∀ (p : Pr) (c : Nat), g p = false → g (nx Na Nb p c) = false) (p : Pr) :
    has l p = true ↔ g p = true ∧ ∃ w, Wd L w ∧ runP Na Nb p0 w = p := by
  constructor
  · intro hp
    have hp := has_iff.1 hp
    simp only [List.mem_map] at hp
    obtain ⟨v, hv, rfl⟩ := hp
    obtain ⟨j, hj⟩ := List.mem_iff_getElem?.1 hv
    exact ⟨h.g v hv, inv_word h j v hj⟩
  · rintro ⟨hgp, w, hw, rfl⟩
    have key : ∀ w : List Nat, Wd L w → g (runP Na Nb p0 w) = true → has l (runP Na Nb p0 w) = true := by
      intro w
      induction hn : w.length generalizing w with
      | zero =>
        intro _ _
        have : w = [] := List.length_eq_zero_iff.1 hn
        subst this
        refine has_iff.2 ?_
        exact List.mem_map.2 ⟨_, List.mem_of_getElem? h.h0, rfl⟩
      | succ n ih =>
        intro hw hgw
        obtain ⟨u, c, rfl⟩ : ∃ u c, w = u ++ [c] := ⟨w.dropLast, w.getLast (by rintro rfl; simp at hn), (List.dropLast_concat_getLast _).symm⟩
        rw [runP_snoc] at hgw ⊢
        have hu : Wd L u := fun x hx => hw x (by simp [hx])
        have hgu : g (runP Na Nb p0 u) = true := by
          cases hh : g (runP Na Nb p0 u) with
          | true => rfl
          | false => rw [hg _ c hh] at hgw; cases hgw
        have := has_iff.1 (ih u (by simpa using hn) hu hgu)
        simp only [List.mem_map] at this
        obtain ⟨v, hv, e⟩ := this
        obtain ⟨j, hj⟩ := List.mem_iff_getElem?.1 hv
        rw [← e] at hgw ⊢
        exact hd j v (List.getElem?_eq_some_iff.1 hj).1 hj c (hw c (by simp)) hgw
    exact key w hw hgp

theorem start_inv (ha : V L Sa Na Aa) (hb : V L Sb Nb Ab) (hg : g (Sa, Sb) = true) : Inv g L Na Nb (Sa, Sb) [((Sa, Sb), (-1, 0))] := by
  refine ⟨by simp, ?_, ?_, rfl, ?_⟩
  · intro v hv; simp at hv; subst hv; exact ⟨ha.s, hb.s⟩
  · intro v hv; simp at hv; subst hv; exact hg
  · intro j v hj hv
    rw [List.getElem?_eq_none (by simp; omega)] at hv; cases hv
theorem start_done (l : List Vis) : Done g L Na Nb 0 l := fun j v hj => by omega

def MapRep (m : List (Pr × Bool)) (l : List Vis) : Prop := ∀ q : Pr, (mget TP false q m).1 = has l q
theorem MapRep.put {m : List (Pr × Bool)} {l : List Vis} (h : MapRep m l) (q x : Pr) : MapRep (mput TP q true m) (l ++ [(q, x)]) := by
  intro p
  rw [mget_mput, has_app, h p]
  by_cases e : p = q <;> simp [e]
theorem map_start (p : Pr) (x : Pr) : MapRep (mput TP p true ([] : List (Pr × Bool))) [(p, x)] := by
  intro q
  rw [mget_mput]
  unfold has
  by_cases e : q = p
  · simp [e]
  · simp [e, mget]; intro h; exact e h.symm


abbrev gT : Pr → Bool := fun _ => true
theorem one_T (i c : Nat) {l : List Vis} (hi : i < l.length) : one gT Na Nb i c l = bif !has l (nx Na Nb (l[i]'hi).1 c) then l ++ [(nx Na Nb (l[i]'hi).1 c, ((i : Int), (c : Int)))] else l := by
  unfold one; rw [List.getElem?_eq_getElem hi]; simp only [gT, Bool.true_and]

theorem vis_l8 (ha : V L Sa Na Aa) (hb : V L Sb Nb Ab) {i : Nat} {p : Pr} : ∀ (f c : Nat) {l : List Vis} {m : List (Pr × Bool)}, Inv gT L Na Nb p0 l → MapRep m l → (l[i]?).map (·.1) = some p → (c : Int) + f = L →
    ∃ m', MapRep m' (rowV gT Na Nb i f c l) ∧ automaton_visits.l8 (i : Int) L (c : Int) L Sa Na Aa L Sb Nb Ab l m p.1 p.2 = automaton_visits.l4 (IntKind.i64.wrap ((i : Int) + 1)) L Sa Na Aa L Sb Nb Ab (rowV gT Na Nb i f c l) m'
  | 0, c, l, m, h, hm, hi, hc => by
    refine ⟨m, hm, ?_⟩
    rw [automaton_visits.l8_eq, ifB_not _ _ (decide_eq_false (by omega))]; rfl
  | f + 1, c, l, m, h, hm, hip, hc => by
    have hc' : (c : Int) < L := by omega
    have hl8 := ha.l8
    have hi : i < l.length := by
      refine Nat.lt_of_not_le fun hle => ?_
      rw [List.getElem?_eq_none hle] at hip; cases hip
    have hv : l[i]? = some l[i] := List.getElem?_eq_getElem hi
    have hp : p = l[i].1 := by rw [hv] at hip; exact (Option.some.inj hip).symm
    have hU := h.u _ (List.getElem_mem hi)
    have hlen := inv_len ha hb h
    have hw : IntKind.i64.wrap ((c : Int) + 1) = ((c + 1 : Nat) : Int) := w64_succ (by omega)
    have h1 := one_inv ha hb h hi hc'
    have h2 := one_len (g := gT) (Na := Na) (Nb := Nb) i c l
    rw [automaton_visits.l8_eq, ifB_of _ _ (decide_eq_true hc')]
    rw [hp]
    simp only [anext_f ha hU.1 hc', anext_f hb hU.2 hc', bindD_some, hw]
    simp only [rowV]
    have hnx : (stp Na l[i].1.1 c, stp Nb l[i].1.2 c) = nx Na Nb l[i].1 c := rfl
    rw [hnx, hm]
    have hone := one_T (Na := Na) (Nb := Nb) i c hi
    cases hh : has l (nx Na Nb l[i].1 c) with
    | true =>
      rw [hh] at hone; simp only [Bool.not_true, cond_false] at hone
      rw [Bool.not_true, ifB_false, hone]
      have := vis_l8 ha hb f (c + 1) h hm hip (by omega)
      rw [hp] at this; exact this
    | false =>
      rw [hh] at hone; simp only [Bool.not_false, cond_true] at hone
      rw [Bool.not_false, ifB_true, grow_ok (by simp only [List.length_cons, List.length_nil]; omega), bindD_some, hone]
      rw [hone] at h1 h2
      have := vis_l8 ha hb f (c + 1) h1 (hm.put _ _) (by rw [List.getElem?_append_left hi]; exact hip) (by omega)
      rw [hp] at this; exact this

theorem vis_l4 (ha : V L Sa Na Aa) (hb : V L Sb Nb Ab) : ∀ (f i : Nat) {l : List Vis} {m : List (Pr × Bool)}, Inv gT L Na Nb p0 l → MapRep m l → 160801 ≤ i + f →
    automaton_visits.l4 (i : Int) L Sa Na Aa L Sb Nb Ab l m = some (bfs gT L Na Nb f i l, ())
  | 0, i, l, m, h, hm, hf => by
    have hlen := inv_len ha hb h
    rw [automaton_visits.l4_eq, ifB_not _ _ (decide_eq_false (by omega))]; rfl
  | f + 1, i, l, m, h, hm, hf => by
    have hlen := inv_len ha hb h
    have hL := ha.l1
    simp only [bfs]
    split
    · rename_i hi
      have hv : l[i]? = some l[i] := List.getElem?_eq_getElem hi
      rw [automaton_visits.l4_eq, ifB_of _ _ (decide_eq_true (by omega)), ixAt_nat, hv, bindD_some, bindD_some]
      obtain ⟨m', h1, h2⟩ := vis_l8 ha hb L.toNat 0 (p := l[i].1) h hm (by rw [hv]; rfl) (by omega)
      rw [show ((0 : Nat) : Int) = 0 from rfl] at h2
      rw [h2, w64_succ (by omega)]
      exact vis_l4 ha hb f (i + 1) (rowV_inv ha hb L.toNat 0 h hi (by omega)) h1 (by omega)
    · rename_i hi
      rw [automaton_visits.l4_eq, ifB_not _ _ (decide_eq_false (by omega))]

theorem walk_l7 (ha : V L Sa Na Aa) (hb : V L Sb Nb Ab) {i : Nat} : ∀ (f c : Nat) {l : List Vis} {m : List (Pr × Bool)}, Inv gT L Na Nb p0 l → MapRep m l → i < l.length → (c : Int) + f = L →
    ∃ m', MapRep m' (rowV gT Na Nb i f c l) ∧ ancepsref06_walk.l7 (i : Int) (c : Int) L Sa Na Aa L Sb Nb Ab l m = ancepsref06_walk.l4 (IntKind.i64.wrap ((i : Int) + 1)) L Sa Na Aa L Sb Nb Ab (rowV gT Na Nb i f c l) m'
  | 0, c, l, m, h, hm, hi, hc => by
    refine ⟨m, hm, ?_⟩
    rw [ancepsref06_walk.l7_eq, ifB_not _ _ (decide_eq_false (by omega))]; rfl
  | f + 1, c, l, m, h, hm, hi, hc => by
    have hc' : (c : Int) < L := by omega
    have hl8 := ha.l8
    have hv : l[i]? = some l[i] := List.getElem?_eq_getElem hi
    have hU := h.u _ (List.getElem_mem hi)
    have hlen := inv_len ha hb h
    have hw : IntKind.i64.wrap ((c : Int) + 1) = ((c + 1 : Nat) : Int) := w64_succ (by omega)
    have h1 := one_inv ha hb h hi hc'
    have h2 := one_len (g := gT) (Na := Na) (Nb := Nb) i c l
    rw [ancepsref06_walk.l7_eq, ifB_of _ _ (decide_eq_true hc')]
    simp only [ixAt_nat, hv, bindD_some, step_next, anext_f ha hU.1 hc', anext_f hb hU.2 hc', hw]
    simp only [rowV]
    have hnx : (stp Na l[i].1.1 c, stp Nb l[i].1.2 c) = nx Na Nb l[i].1 c := rfl
    rw [hnx, hm]
    have hone := one_T (Na := Na) (Nb := Nb) i c hi
    cases hh : has l (nx Na Nb l[i].1 c) with
    | true =>
      rw [hh] at hone; simp only [Bool.not_true, cond_false] at hone
      rw [Bool.not_true, ifB_false, hone]
      exact walk_l7 ha hb f (c + 1) h hm hi (by omega)
    | false =>
      rw [hh] at hone; simp only [Bool.not_false, cond_true] at hone
      rw [Bool.not_false, ifB_true, grow_ok (by simp only [List.length_cons, List.length_nil]; omega), bindD_some, hone]
      rw [hone] at h1 h2
      exact walk_l7 ha hb f (c + 1) h1 (hm.put _ _) (by omega) (by omega)

theorem walk_l4 (ha : V L Sa Na Aa) (hb : V L Sb Nb Ab) : ∀ (f i : Nat) {l : List Vis} {m : List (Pr × Bool)}, Inv gT L Na Nb p0 l → MapRep m l → 160801 ≤ i + f →
    ancepsref06_walk.l4 (i : Int) L Sa Na Aa L Sb Nb Ab l m = some (bfs gT L Na Nb f i l, ())
  | 0, i, l, m, h, hm, hf => by
    have hlen := inv_len ha hb h
    rw [ancepsref06_walk.l4_eq, ifB_not _ _ (decide_eq_false (by omega))]; rfl
  | f + 1, i, l, m, h, hm, hf => by
    have hlen := inv_len ha hb h
    have hL := ha.l1
    simp only [bfs]
    split
    · rename_i hi
      rw [ancepsref06_walk.l4_eq, ifB_of _ _ (decide_eq_true (by omega))]
      obtain ⟨m', h1, h2⟩ := walk_l7 ha hb L.toNat 0 h hm hi (by omega)
      rw [show ((0 : Nat) : Int) = 0 from rfl] at h2
      rw [h2, w64_succ (by omega)]
      exact walk_l4 ha hb f (i + 1) (rowV_inv ha hb L.toNat 0 h hi (by omega)) h1 (by omega)
    · rename_i hi
      rw [ancepsref06_walk.l4_eq, ifB_not _ _ (decide_eq_false (by omega))]

/-- the pairs to which words lead, in the order of the first words -/
def walkL (L Sa : Int) (Na : LLI) (Sb : Int) (Nb : LLI) : List Vis := bfs gT L Na Nb 160801 0 [((Sa, Sb), (-1, 0))]
theorem visits_f (ha : V L Sa Na Aa) (hb : V L Sb Nb Ab) : automaton_visits.f L Sa Na Aa L Sb Nb Ab = some (walkL L Sa Na Sb Nb, ()) := by
  rw [automaton_visits.f_eq]
  exact vis_l4 ha hb 160801 0 (start_inv ha hb rfl) (map_start (Sa, Sb) (-1, 0)) (by omega)
theorem walk_f (ha : V L Sa Na Aa) (hb : V L Sb Nb Ab) : ancepsref06_walk.f L Sa Na Aa L Sb Nb Ab = some (walkL L Sa Na Sb Nb, ()) := by
  rw [ancepsref06_walk.f_eq]
  exact walk_l4 ha hb 160801 0 (start_inv ha hb rfl) (map_start (Sa, Sb) (-1, 0)) (by omega)
theorem walkL_facts (ha : V L Sa Na Aa) (hb : V L Sb Nb Ab) : Inv gT L Na Nb (Sa, Sb) (walkL L Sa Na Sb Nb) ∧ Done gT L Na Nb (walkL L Sa Na Sb Nb).length (walkL L Sa Na Sb Nb) :=
  bfs_facts ha hb 160801 0 (start_inv ha hb rfl) (start_done _) (by omega)
end
end Go.Proofs.C06
