/- The least automaton of a language, as plain words. -/
import Derived.Test.YtmbloefhgkhoaaaM07f
set_option linter.unusedVariables false
set_option linter.unusedSimpArgs false
namespace Go.Proofs.C07.M
open Go Go.Proofs.R
set_option linter.unusedVariables false
set_option linter.unusedSimpArgs false
set_option maxRecDepth 100000

/-- an automaton whose rows are right -/
structure W (L : Int) (N : LLI) (A : LB) : Prop where
  l1 : 1 ≤ L
  l8 : L ≤ 8
  n : N.length ≤ 4000000
  a : A.length = N.length
  row : ∀ r ∈ N, (r.length : Int) = L ∧ ∀ t ∈ r, -1 ≤ t ∧ t < N.length
theorem V.w {L S : Int} {N : LLI} {A : LB} (h : V L S N A) : W L N A := ⟨h.l1, h.l8, by have := h.n; omega, h.a, h.row⟩
theorem W.v {L S : Int} {N : LLI} {A : LB} (h : W L N A) (hn : N.length ≤ 400) (hs : -1 ≤ S ∧ S < N.length) : V L S N A := ⟨h.l1, h.l8, hn, h.a, hs, h.row⟩

theorem stp_W {L : Int} {N : LLI} {A : LB} (h : W L N A) {s : Int} (hs : -1 ≤ s ∧ s < N.length) {c : Nat} (hc : (c : Int) < L) :
    (-1 ≤ stp N s c ∧ stp N s c < N.length) ∧ (0 ≤ s → ∃ r, N[s.toNat]? = some r ∧ r[c]? = some (stp N s c)) := by
  unfold stp
  by_cases h0 : s < 0
  · rw [if_pos h0]
    exact ⟨⟨by omega, by omega⟩, fun h => by omega⟩
  · rw [if_neg h0]
    have hlt : s.toNat < N.length := by omega
    have hr : N[s.toNat]? = some N[s.toNat] := List.getElem?_eq_getElem hlt
    obtain ⟨h1, h2⟩ := h.row _ (List.getElem_mem hlt)
    have hcl : c < (N[s.toNat]).length := by omega
    have hc' : (N[s.toNat])[c]? = some (N[s.toNat])[c] := List.getElem?_eq_getElem hcl
    rw [hr]
    simp only [Option.getD_some]
    rw [hc']
    exact ⟨h2 _ (List.getElem_mem hcl), fun _ => ⟨_, rfl, hc'⟩⟩

abbrev Lang := List Nat → Bool
def wdB (L : Int) (w : List Nat) : Bool := w.all fun c => decide ((c : Int) < L)
theorem wdB_iff {L : Int} {w : List Nat} : wdB L w = true ↔ Wd L w := by unfold wdB Wd; simp
/-- the words that are accepted from a state -/
def lang (L : Int) (N : LLI) (A : LB) (s : Int) : Lang := fun w => wdB L w && acc A (run N s w)
def der (l : Lang) (c : Nat) : Lang := fun w => l (c :: w)
def emp : Lang := fun _ => false

theorem run_neg {N : LLI} : ∀ (w : List Nat) {s : Int}, s < 0 → run N s w < 0
  | [], s, h => h
  | c :: w, s, h => run_neg w (by rw [stp_neg h]; omega)
theorem acc_neg {A : LB} {s : Int} (h : s < 0) : acc A s = false := by unfold acc; rw [if_neg (by omega)]
theorem lang_neg {L : Int} {N : LLI} {A : LB} {s : Int} (h : s < 0) : lang L N A s = emp := by
  funext w; unfold lang emp; rw [acc_neg (run_neg w h)]; simp
theorem lang_der {L : Int} {N : LLI} {A : LB} {s : Int} {c : Nat} (hc : (c : Int) < L) : der (lang L N A s) c = lang L N A (stp N s c) := by
  funext w
  show (wdB L (c :: w) && acc A (run N s (c :: w))) = _
  have : wdB L (c :: w) = wdB L w := by unfold wdB; simp [hc]
  rw [this]; rfl
theorem lang_nil {L : Int} {N : LLI} {A : LB} {s : Int} : lang L N A s [] = acc A s := rfl
def Of (L : Int) (l : Lang) : Prop := ∀ w, l w = true → Wd L w
theorem lang_of {L : Int} {N : LLI} {A : LB} {s : Int} : Of L (lang L N A s) := fun w h => by
  unfold lang at h; simp only [Bool.and_eq_true] at h; exact wdB_iff.1 h.1
theorem lang_wd {L : Int} {N : LLI} {A : LB} {s : Int} {w : List Nat} (h : Wd L w) : lang L N A s w = acc A (run N s w) := by
  unfold lang; rw [wdB_iff.2 h]; rfl
/-! ### places -/
open Classical in
noncomputable def place {α : Type} (d : α) : List α → Nat
  | [] => 0
  | x :: xs => if x = d then 0 else place d xs + 1
open Classical in
noncomputable def putIn {α : Type} (d : α) (l : List α) : List α := if d ∈ l then l else l ++ [d]
theorem place_mem {α : Type} {d : α} : ∀ {l : List α}, d ∈ l → l[place d l]? = some d ∧ place d l < l.length
  | [], h => by cases h
  | x :: xs, h => by
    unfold place
    by_cases e : x = d
    · rw [if_pos e]; simp [e]
    · rw [if_neg e]
      have := place_mem (l := xs) (by rcases List.mem_cons.1 h with h | h; exact absurd h.symm e; exact h)
      exact ⟨by simpa using this.1, by simp; omega⟩
theorem place_not {α : Type} {d : α} : ∀ {l : List α}, d ∉ l → place d l = l.length
  | [], h => rfl
  | x :: xs, h => by
    unfold place
    rw [if_neg (fun e => h (by simp [e])), place_not (l := xs) (fun e => h (by simp [e]))]; simp
theorem place_app {α : Type} {d : α} {e : List α} : ∀ {l : List α}, d ∈ l → place d (l ++ e) = place d l
  | [], h => by cases h
  | x :: xs, h => by
    show place d (x :: (xs ++ e)) = _
    unfold place
    by_cases e : x = d
    · rw [if_pos e, if_pos e]
    · rw [if_neg e, if_neg e, place_app (l := xs) (by rcases List.mem_cons.1 h with h | h; exact absurd h.symm e; exact h)]
theorem place_at {α : Type} {d : α} : ∀ {l : List α} {j : Nat}, l.Nodup → l[j]? = some d → place d l = j
  | [], j, _, h => by simp at h
  | x :: xs, j, hn, h => by
    unfold place
    rw [List.nodup_cons] at hn
    cases j with
    | zero => simp at h; rw [if_pos h]
    | succ j =>
      simp only [List.getElem?_cons_succ] at h
      have hm := List.mem_of_getElem? h
      rw [if_neg (fun e : x = d => hn.1 (by rw [e]; exact hm)), place_at hn.2 h]
theorem putIn_mem {α : Type} (d : α) (l : List α) : d ∈ putIn d l := by unfold putIn; split <;> simp_all
theorem putIn_pre {α : Type} (d : α) (l : List α) : ∃ e, putIn d l = l ++ e := by
  unfold putIn; split
  · exact ⟨[], by simp⟩
  · exact ⟨[d], rfl⟩
theorem putIn_nodup {α : Type} {d : α} {l : List α} (h : l.Nodup) : (putIn d l).Nodup := by
  unfold putIn; split
  · exact h
  · rename_i hd
    rw [List.nodup_append]
    refine ⟨h, by simp, ?_⟩
    intro a ha b hb e
    simp at hb; subst hb; subst e; exact hd ha
theorem mem_putIn {α : Type} {d x : α} {l : List α} (h : x ∈ putIn d l) : x ∈ l ∨ x = d := by
  unfold putIn at h; split at h
  · exact .inl h
  · simpa using h
theorem place_putIn {α : Type} {d : α} {l : List α} : place d (putIn d l) = place d l := by
  unfold putIn; split
  · rfl
  · rename_i hd
    rw [place_not hd]
    have : (l ++ [d])[l.length]? = some d := by simp
    clear this
    induction l with
    | nil => simp [place]
    | cons x xs ih =>
      show place d (x :: (xs ++ [d])) = _
      unfold place
      rw [if_neg (fun e => hd (by simp [e])), ih (fun e => hd (by simp [e]))]; simp

/-! ### the automaton of a language: its rests, as they are found -/
open Classical in
noncomputable def cNum (d : Lang) (fs : List Lang) : Int := if d = emp then -1 else (place d fs : Nat)
open Classical in
noncomputable def cPut (d : Lang) (fs : List Lang) : List Lang := if d = emp then fs else putIn d fs
noncomputable def cRow (l : Lang) : Nat → Nat → List Lang → List Int → List Int × List Lang
  | 0, _, fs, row => (row, fs)
  | f + 1, c, fs, row => cRow l f (c + 1) (cPut (der l c) fs) (row ++ [cNum (der l c) fs])
noncomputable def cAll (L : Nat) : Nat → Nat → List Lang → LLI → LLI × List Lang
  | 0, _, fs, N => (N, fs)
  | f + 1, i, fs, N => match fs[i]? with
    | none => (N, fs)
    | some l => cAll L f (i + 1) (cRow l L 0 fs []).2 (N ++ [(cRow l L 0 fs []).1])
abbrev fuelC : Nat := 4000001
noncomputable def cRes (L : Int) (l : Lang) : LLI × List Lang := cAll L.toNat fuelC 0 [l] []
open Classical in
noncomputable def canN (L : Int) (l : Lang) : LLI := if l = emp then [] else (cRes L l).1
open Classical in
noncomputable def canA (L : Int) (l : Lang) : LB := if l = emp then [] else (cRes L l).2.map fun x => x []
open Classical in
noncomputable def canS (l : Lang) : Int := if l = emp then -1 else 0

/-- an entry is right -/
def Ent (fs : List Lang) (d : Lang) (t : Int) : Prop := (d = emp ∧ t = -1) ∨ (d ≠ emp ∧ 0 ≤ t ∧ fs[t.toNat]? = some d)
theorem Ent.app {fs e : List Lang} {d : Lang} {t : Int} (h : Ent fs d t) : Ent (fs ++ e) d t := by
  rcases h with h | ⟨h1, h2, h3⟩
  · exact .inl h
  · exact .inr ⟨h1, h2, by rw [List.getElem?_append_left (List.getElem?_eq_some_iff.1 h3).1]; exact h3⟩
theorem Ent.rng {fs : List Lang} {d : Lang} {t : Int} (h : Ent fs d t) : -1 ≤ t ∧ t < fs.length := by
  rcases h with ⟨_, h⟩ | ⟨_, h2, h3⟩
  · omega
  · have := (List.getElem?_eq_some_iff.1 h3).1; omega
theorem cPut_pre (d : Lang) (fs : List Lang) : ∃ e, cPut d fs = fs ++ e := by
  unfold cPut; split
  · exact ⟨[], by simp⟩
  · exact putIn_pre d fs
theorem cNum_ent (d : Lang) (fs : List Lang) : Ent (cPut d fs) d (cNum d fs) := by
  unfold cPut cNum Ent
  by_cases h : d = emp
  · rw [if_pos h, if_pos h]; exact .inl ⟨h, rfl⟩
  · rw [if_neg h, if_neg h]
    refine .inr ⟨h, by omega, ?_⟩
    rw [Int.toNat_natCast, ← place_putIn]
    exact (place_mem (putIn_mem d fs)).1

/-- what is found: languages of states -/
structure Fnd (P : Lang → Prop) (fs : List Lang) : Prop where
  nd : fs.Nodup
  ne : ∀ x ∈ fs, x ≠ emp
  p : ∀ x ∈ fs, P x
theorem Fnd.put {P : Lang → Prop} {fs : List Lang} (h : Fnd P fs) {d : Lang} (hd : P d) : Fnd P (cPut d fs) := by
  unfold cPut
  by_cases e : d = emp
  · rw [if_pos e]; exact h
  · rw [if_neg e]
    refine ⟨putIn_nodup h.nd, fun x hx => ?_, fun x hx => ?_⟩
    · rcases mem_putIn hx with hx | rfl
      · exact h.ne x hx
      · exact e
    · rcases mem_putIn hx with hx | rfl
      · exact h.p x hx
      · exact hd

theorem cRow_facts {P : Lang → Prop} {L : Nat} (hP : ∀ l, P l → ∀ c, c < L → P (der l c)) {l : Lang} (hl : P l) : ∀ (f c : Nat) (fs : List Lang) (row : List Int), c + f = L → row.length = c → Fnd P fs → (∀ k t, row[k]? = some t → Ent fs (der l k) t) →
    (∃ e, (cRow l f c fs row).2 = fs ++ e) ∧ Fnd P (cRow l f c fs row).2 ∧ (cRow l f c fs row).1.length = L ∧ (∀ k t, (cRow l f c fs row).1[k]? = some t → Ent (cRow l f c fs row).2 (der l k) t)
  | 0, c, fs, row, hc, hr, hf, he => ⟨⟨[], by simp [cRow]⟩, hf, by simp only [cRow]; omega, he⟩
  | f + 1, c, fs, row, hc, hr, hf, he => by
    obtain ⟨e1, h1⟩ := cPut_pre (der l c) fs
    have hrec := cRow_facts hP hl f (c + 1) (cPut (der l c) fs) (row ++ [cNum (der l c) fs]) (by omega) (by simp [hr]) (hf.put (hP l hl c (by omega))) ?_
    · obtain ⟨⟨e2, h2⟩, h3, h4, h5⟩ := hrec
      exact ⟨⟨e1 ++ e2, by simp only [cRow]; rw [h2, h1, List.append_assoc]⟩, h3, h4, h5⟩
    · intro k t hk
      by_cases hkc : k < row.length
      · rw [List.getElem?_append_left hkc] at hk
        rw [h1]; exact (he k t hk).app
      · have hkc' : k = row.length := by
          have := (List.getElem?_eq_some_iff.1 hk).1
          simp at this; omega
        subst hkc'
        simp at hk; subst hk
        rw [hr]; exact cNum_ent _ _

def RowsOk (L : Nat) (fs : List Lang) (N : LLI) : Prop := ∀ (j : Nat) (r : List Int) (l : Lang), N[j]? = some r → fs[j]? = some l → r.length = L ∧ ∀ k t, r[k]? = some t → Ent fs (der l k) t
theorem cAll_facts {P : Lang → Prop} {L : Nat} {B : Nat} (hP : ∀ l, P l → ∀ c, c < L → P (der l c)) (hB : ∀ fs, Fnd P fs → fs.length ≤ B) : ∀ (f i : Nat) (fs : List Lang) (N : LLI), Fnd P fs → N.length = i → i ≤ fs.length → RowsOk L fs N → B < i + f →
    (∃ e, (cAll L f i fs N).2 = fs ++ e) ∧ Fnd P (cAll L f i fs N).2 ∧ (cAll L f i fs N).1.length = (cAll L f i fs N).2.length ∧ RowsOk L (cAll L f i fs N).2 (cAll L f i fs N).1
  | 0, i, fs, N, hf, hN, hi, hR, hfu => by
    have := hB fs hf
    omega
  | f + 1, i, fs, N, hf, hN, hi, hR, hfu => by
    simp only [cAll]
    cases hx : fs[i]? with
    | none =>
      have : fs.length ≤ i := List.getElem?_eq_none_iff.1 hx
      exact ⟨⟨[], by simp⟩, hf, by simp only; omega, hR⟩
    | some l =>
      have hil := (List.getElem?_eq_some_iff.1 hx).1
      have hlP := hf.p l (List.mem_of_getElem? hx)
      obtain ⟨⟨e1, h1⟩, h2, h3, h4⟩ := cRow_facts hP hlP L 0 fs [] (by omega) rfl hf (fun k t hk => by simp at hk)
      have hrec := cAll_facts hP hB f (i + 1) (cRow l L 0 fs []).2 (N ++ [(cRow l L 0 fs []).1]) h2 (by simp [hN]) (by rw [h1]; simp; omega) ?_ (by omega)
      · obtain ⟨⟨e2, g1⟩, g2, g3, g4⟩ := hrec
        exact ⟨⟨e1 ++ e2, by simp only [g1]; rw [h1, List.append_assoc]⟩, g2, g3, g4⟩
      · intro j r l' hj hl'
        by_cases hjN : j < N.length
        · rw [List.getElem?_append_left hjN] at hj
          rw [h1, List.getElem?_append_left (by omega)] at hl'
          obtain ⟨a, b⟩ := hR j r l' hj hl'
          exact ⟨a, fun k t hk => by rw [h1]; exact (b k t hk).app⟩
        · have : j = N.length := by have := (List.getElem?_eq_some_iff.1 hj).1; simp at this; omega
          subst this
          simp at hj; subst hj
          rw [h1, List.getElem?_append_left (by omega), hN, hx] at hl'
          cases hl'
          exact ⟨h3, h4⟩

/-! ### languages of automata -/
section
variable {L : Int} {N : LLI} {A : LB}
def Lin (L : Int) (N : LLI) (A : LB) (x : Lang) : Prop := ∃ s : Int, -1 ≤ s ∧ s < N.length ∧ x = lang L N A s
theorem lin_der (h : W L N A) : ∀ l, Lin L N A l → ∀ c, c < L.toNat → Lin L N A (der l c) := by
  rintro l ⟨s, h1, h2, rfl⟩ c hc
  have hc' : (c : Int) < L := by omega
  exact ⟨stp N s c, (stp_W h ⟨h1, h2⟩ hc').1.1, (stp_W h ⟨h1, h2⟩ hc').1.2, lang_der hc'⟩
open Classical in
theorem fnd_len {fs : List Lang} (hf : Fnd (Lin L N A) fs) : fs.length ≤ N.length := by
  let g : Lang → Nat := fun x => if hx : ∃ s : Int, -1 ≤ s ∧ s < N.length ∧ x = lang L N A s then hx.choose.toNat else 0
  have hg : ∀ x ∈ fs, g x < N.length ∧ x = lang L N A (g x : Nat) := by
    intro x hx
    have hp : ∃ s : Int, -1 ≤ s ∧ s < N.length ∧ x = lang L N A s := hf.p x hx
    have hc := hp.choose_spec
    have e : g x = hp.choose.toNat := by show (if hx : _ then _ else _) = _; rw [dif_pos hp]
    have h0 : 0 ≤ hp.choose := by
      refine Classical.byContradiction fun hn => hf.ne x hx ?_
      rw [hc.2.2]; exact lang_neg (by omega)
    refine ⟨by omega, ?_⟩
    rw [e, Int.toNat_of_nonneg h0]; exact hc.2.2
  have := nodup_le N.length (fs.map g) (by
    have hnd := hf.nd
    unfold List.Nodup at hnd ⊢
    rw [List.pairwise_map]
    refine List.Pairwise.imp_of_mem ?_ hnd
    intro x y hx hy hne e
    exact hne ((hg x hx).2.trans (by rw [e]; exact (hg y hy).2.symm))) (by
    intro n hn
    simp only [List.mem_map] at hn
    obtain ⟨x, hx, rfl⟩ := hn
    exact (hg x hx).1)
  simpa using this
theorem fnd_start {l : Lang} (hl : Lin L N A l) (hne : l ≠ emp) : Fnd (Lin L N A) [l] := ⟨by simp, by simp [hne], by simp [hl]⟩

theorem cRes_facts (h : W L N A) {l : Lang} (hl : Lin L N A l) (hne : l ≠ emp) :
    (cRes L l).2[0]? = some l ∧ Fnd (Lin L N A) (cRes L l).2 ∧ (cRes L l).1.length = (cRes L l).2.length ∧ RowsOk L.toNat (cRes L l).2 (cRes L l).1 := by
  have hn := h.n
  obtain ⟨⟨e, h1⟩, h2, h3, h4⟩ := cAll_facts (lin_der h) (fun fs hf => fnd_len hf) fuelC 0 [l] [] (fnd_start hl hne) rfl (by simp) (fun j r l' hj => by simp at hj) (by unfold fuelC; omega)
  refine ⟨?_, h2, h3, h4⟩
  show (cAll L.toNat fuelC 0 [l] []).2[0]? = _
  rw [h1]; rfl

theorem cRes_W (h : W L N A) {l : Lang} (hl : Lin L N A l) (hne : l ≠ emp) : W L (cRes L l).1 ((cRes L l).2.map fun x => x []) := by
  obtain ⟨h0, h1, h2, h3⟩ := cRes_facts h hl hne
  have hlen := fnd_len h1
  have := h.n; have := h.l1
  refine ⟨h.l1, h.l8, by omega, by simp [h2], ?_⟩
  intro r hr
  obtain ⟨j, hj⟩ := List.mem_iff_getElem?.1 hr
  have hjl := (List.getElem?_eq_some_iff.1 hj).1
  obtain ⟨g1, g2⟩ := h3 j r _ hj (List.getElem?_eq_getElem (by omega : j < (cRes L l).2.length))
  refine ⟨by omega, fun t ht => ?_⟩
  obtain ⟨k, hk⟩ := List.mem_iff_getElem?.1 ht
  have := (g2 k t hk).rng
  omega

theorem cRes_lang (h : W L N A) {l : Lang} (hl : Lin L N A l) (hne : l ≠ emp) : ∀ (w : List Nat) (j : Nat) (x : Lang), (cRes L l).2[j]? = some x → Wd L w →
    acc ((cRes L l).2.map fun x => x []) (run (cRes L l).1 (j : Int) w) = x w := by
  obtain ⟨h0, h1, h2, h3⟩ := cRes_facts h hl hne
  intro w
  induction w with
  | nil =>
    intro j x hj _
    show acc _ (j : Int) = _
    unfold acc
    rw [if_pos (by omega), Int.toNat_natCast]
    simp [hj]
  | cons c w ih =>
    intro j x hj hw
    have hc : (c : Int) < L := hw c List.mem_cons_self
    have hjl := (List.getElem?_eq_some_iff.1 hj).1
    have hjN : j < (cRes L l).1.length := by omega
    have hr : (cRes L l).1[j]? = some (cRes L l).1[j] := List.getElem?_eq_getElem hjN
    obtain ⟨g1, g2⟩ := h3 j _ x hr hj
    have hcl : c < ((cRes L l).1[j]).length := by omega
    have hct := List.getElem?_eq_getElem hcl
    have hent := g2 c _ hct
    have hstp : stp (cRes L l).1 (j : Int) c = (cRes L l).1[j][c] := by
      unfold stp
      rw [if_neg (by omega), Int.toNat_natCast, hr]; simp only [Option.getD_some]; rw [hct]; rfl
    show acc _ (run (cRes L l).1 (stp (cRes L l).1 (j : Int) c) w) = der x c w
    rw [hstp]
    rcases hent with ⟨e1, e2⟩ | ⟨e1, e2, e3⟩
    · rw [e1, acc_neg (run_neg w (by rw [e2]; omega))]; rfl
    · have := ih ((cRes L l).1[j][c]).toNat (der x c) e3 (fun y hy => hw y (List.mem_cons_of_mem _ hy))
      rw [Int.toNat_of_nonneg e2] at this
      exact this

/-- the automaton of a language has it -/
theorem can_lang (h : W L N A) {l : Lang} (hl : Lin L N A l) : lang L (canN L l) (canA L l) (canS l) = l := by
  unfold canN canA canS
  by_cases hne : l = emp
  · rw [if_pos hne, if_pos hne, if_pos hne, lang_neg (by omega), hne]
  · rw [if_neg hne, if_neg hne, if_neg hne]
    obtain ⟨h0, h1, h2, h3⟩ := cRes_facts h hl hne
    funext w
    have hof : Of L l := by obtain ⟨s, _, _, rfl⟩ := hl; exact lang_of
    by_cases hw : Wd L w
    · rw [lang_wd hw]; exact cRes_lang h hl hne w 0 l h0 hw
    · have e1 : l w = false := by
        cases hx : l w with
        | false => rfl
        | true => exact absurd (hof w hx) hw
      unfold lang
      have : wdB L w = false := by
        cases hx : wdB L w with
        | false => rfl
        | true => exact absurd (wdB_iff.1 hx) hw
      rw [this, e1]; rfl
theorem can_W (h : W L N A) {l : Lang} (hl : Lin L N A l) : W L (canN L l) (canA L l) := by
  unfold canN canA
  by_cases hne : l = emp
  · rw [if_pos hne, if_pos hne]; exact ⟨h.l1, h.l8, by simp, rfl, by simp⟩
  · rw [if_neg hne, if_neg hne]; exact cRes_W h hl hne
theorem can_len (h : W L N A) {l : Lang} (hl : Lin L N A l) : (canN L l).length ≤ N.length := by
  unfold canN
  by_cases hne : l = emp
  · rw [if_pos hne]; simp
  · rw [if_neg hne]
    obtain ⟨h0, h1, h2, h3⟩ := cRes_facts h hl hne
    have := fnd_len h1
    omega
theorem can_S (h : W L N A) {l : Lang} (hl : Lin L N A l) : -1 ≤ canS l ∧ canS l < (canN L l).length := by
  unfold canN canS
  by_cases hne : l = emp
  · rw [if_pos hne, if_pos hne]; simp
  · rw [if_neg hne, if_neg hne]
    obtain ⟨h0, h1, h2, h3⟩ := cRes_facts h hl hne
    have := (List.getElem?_eq_some_iff.1 h0).1
    omega
theorem can_V (h : W L N A) {l : Lang} (hl : Lin L N A l) (hn : (canN L l).length ≤ 400) : V L (canS l) (canN L l) (canA L l) := (can_W h hl).v hn (can_S h hl)
theorem lin_lang {s : Int} (hs : -1 ≤ s ∧ s < N.length) : Lin L N A (lang L N A s) := ⟨s, hs.1, hs.2, rfl⟩
end
end Go.Proofs.C07.M
