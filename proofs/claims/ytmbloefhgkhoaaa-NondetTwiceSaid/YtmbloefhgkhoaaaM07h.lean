/- The states from which a word is accepted: both texts find them. -/
import Derived.Test.YtmbloefhgkhoaaaM07g
set_option linter.unusedVariables false
set_option linter.unusedSimpArgs false
namespace Go.Proofs.C07.M
open Go Go.Proofs.R
set_option linter.unusedVariables false
set_option linter.unusedSimpArgs false
set_option maxRecDepth 100000

section
variable {L : Int} {N : LLI} {A : LB}
def live (L : Int) (N : LLI) (A : LB) (s : Int) : Prop := lang L N A s ≠ emp
theorem ne_emp {l : Lang} (h : l ≠ emp) : ∃ w, l w = true := by
  refine Classical.byContradiction fun hn => h ?_
  funext w
  cases hx : l w with
  | false => rfl
  | true => exact absurd ⟨w, hx⟩ hn
theorem of_word {l : Lang} {w : List Nat} (h : l w = true) : l ≠ emp := by
  rintro rfl; cases h
theorem live_acc {s : Int} (h : acc A s = true) : live L N A s := of_word (w := []) h
theorem live_back {s : Int} {c : Nat} (hc : (c : Int) < L) (h : live L N A (stp N s c)) : live L N A s := by
  obtain ⟨w, hw⟩ := ne_emp h
  refine of_word (w := c :: w) ?_
  have : der (lang L N A s) c w = true := by rw [lang_der hc]; exact hw
  exact this
theorem live_nn {s : Int} (h : live L N A s) : 0 ≤ s := by
  refine Classical.byContradiction fun hn => h (lang_neg (by omega))
theorem live_ind (h : W L N A) {P : Int → Prop} (h0 : ∀ s : Int, 0 ≤ s → s < N.length → acc A s = true → P s)
    (h1 : ∀ (s : Int) (c : Nat), 0 ≤ s → s < N.length → (c : Int) < L → 0 ≤ stp N s c → P (stp N s c) → P s) {s : Int} (hs : s < N.length) (hl : live L N A s) : P s := by
  have hnn := live_nn hl
  obtain ⟨w, hw⟩ := ne_emp hl
  clear hl
  induction w generalizing s with
  | nil => exact h0 s hnn hs hw
  | cons c w ih =>
    have hc : (c : Int) < L := lang_of _ hw c List.mem_cons_self
    have hd : lang L N A (stp N s c) w = true := by rw [← lang_der hc]; exact hw
    have hst := (stp_W h ⟨by omega, hs⟩ hc).1
    have hnn' : 0 ≤ stp N s c := live_nn (of_word hd)
    exact h1 s c hnn hs hc hnn' (ih hst.2 hnn' hd)

/-- a list tells the states that are live -/
def LvOk (L : Int) (N : LLI) (A : LB) (lv : LB) : Prop := lv.length = N.length ∧ ∀ s : Nat, s < N.length → ((lv[s]? = some true) ↔ live L N A (s : Int))

theorem acc_nat (A : LB) (s : Nat) : (acc A (s : Int) = true) ↔ A[s]? = some true := by
  unfold acc
  rw [if_pos (by omega), Int.toNat_natCast]
  cases A[s]? with
  | none => simp
  | some b => simp
theorem stp_nat {s c : Nat} {r : List Int} {t : Int} (hr : N[s]? = some r) (ht : r[c]? = some t) : stp N (s : Int) c = t := by
  unfold stp
  rw [if_neg (by omega), Int.toNat_natCast, hr]
  simp only [Option.getD_some]; rw [ht]; rfl

def fls (l : LB) : Nat := l.countP fun b => !b
theorem fls_set : ∀ {l : LB} {j : Nat}, l[j]? = some false → fls (l.set j true) + 1 = fls l
  | [], j, h => by simp at h
  | b :: l, 0, h => by
    simp at h; subst h
    simp [fls]
  | b :: l, j + 1, h => by
    simp only [List.getElem?_cons_succ] at h
    have := fls_set h
    simp only [fls, List.set_cons_succ, List.countP_cons] at this ⊢
    omega
theorem fls_rep (n : Nat) : fls (List.replicate n false) = n := by
  unfold fls; induction n with
  | zero => rfl
  | succ n ih => rw [List.replicate_succ, List.countP_cons, ih]; rfl
theorem get_set {α : Type} {l : List α} {i j : Nat} {x : α} : (l.set i x)[j]? = if i = j then (if i < l.length then some x else none) else l[j]? := by
  rw [List.getElem?_set]
theorem ixAt_lt {α : Type} {xs : List α} {n : Nat} (h : n < xs.length) : ixAt xs (n : Int) = some xs[n] := by rw [ixAt_nat, List.getElem?_eq_getElem h]
theorem mkLen_ok {n : Nat} (h : n ≤ 4294967296) : mkLen (n : Int) (n : Int) = some n := by
  unfold mkLen mostLen; rw [if_pos ⟨by omega, by omega, by omega⟩, Int.toNat_natCast]
theorem setRow_nat {α : Type} (xs : List α) (n : Nat) (x : α) : setRow xs (n : Int) x = xs.set n x := by unfold setRow; rw [Int.toNat_natCast]

/-! ### the program's -/
structure Back (L : Int) (N : LLI) (i k : Nat) (bk : LLI) : Prop where
  len : bk.length = N.length
  has : ∀ t : Nat, t < N.length → ∃ l, bk[t]? = some l ∧ l.length ≤ 8 * i + k ∧ (∀ u ∈ l, ∃ j : Nat, u = (j : Int) ∧ j < N.length ∧ ∃ c : Nat, (c : Int) < L ∧ stp N (j : Int) c = (t : Int)) ∧
    (∀ j c : Nat, (c : Int) < L → j < i ∨ j = i ∧ c < k → stp N (j : Int) c = (t : Int) → (j : Int) ∈ l)

theorem back_l6 (h : W L N A) {S : Int} {i : Nat} (hi : i < N.length) {r : List Int} (hr : N[i]? = some r) : ∀ (suf pre : List Int), pre ++ suf = r → ∀ bk, Back L N i pre.length bk →
    ∃ bk', Back L N i L.toNat bk' ∧ automaton_useful.l6 (i : Int) N (N.length : Nat) (i : Int) r (r.length : Nat) (pre.length : Nat) L S N A bk = automaton_useful.l3 N (N.length : Nat) (IntKind.i64.wrap ((i : Int) + 1)) L S N A bk'
  | [], pre, hp, bk, hb => by
    rw [List.append_nil] at hp; subst hp
    have h1 := h.row pre (List.mem_of_getElem? hr)
    refine ⟨bk, ?_, by rw [automaton_useful.l6_eq, ifB_not _ _ (decide_eq_false (by omega))]⟩
    rw [show L.toNat = pre.length by omega]; exact hb
  | t :: suf, pre, hp, bk, hb => by
    have hrow := h.row r (List.mem_of_getElem? hr)
    have h1 := h.l8
    have hn := h.n
    have hrl : r.length = pre.length + suf.length + 1 := by rw [← hp]; simp; omega
    have ht : r[pre.length]? = some t := by rw [← hp]; simp
    have hcL : ((pre.length : Nat) : Int) < L := by omega
    have hst := stp_nat hr ht
    rw [automaton_useful.l6_eq, ifB_of _ _ (decide_eq_true (by omega)), ixAt_nat, ht, bindD_some]
    have hw : IntKind.i64.wrap (((pre.length : Nat) : Int) + 1) = ((pre ++ [t]).length : Nat) := by rw [w64_succ (by omega)]; simp
    by_cases h0 : t ≥ 0
    · rw [ifB_of _ _ (decide_eq_true h0)]
      have htn := (hrow.2 t (List.mem_of_getElem? ht)).2
      have htlt : t.toNat < N.length := by omega
      obtain ⟨l, g1, g2, g3, g4⟩ := hb.has t.toNat htlt
      have hix : ixAt bk t = some l := by rw [ixAt_int bk h0, g1]
      rw [hix]
      simp only [bindD_some]
      rw [grow_ok (by simp; omega)]
      simp only [bindD_some]
      rw [ifB_of _ _ (by simp), hw]
      have hset : setRow bk t (l ++ [(i : Int)]) = bk.set t.toNat (l ++ [(i : Int)]) := rfl
      rw [hset]
      refine back_l6 h hi hr suf (pre ++ [t]) (by rw [← hp]; simp) _ ⟨by simp [hb.len], ?_⟩
      intro u hu
      by_cases hut : t.toNat = u
      · subst hut
        refine ⟨l ++ [(i : Int)], by rw [get_set, if_pos rfl, if_pos (by rw [hb.len]; exact htlt)], by simp; omega, ?_, ?_⟩
        · intro x hx
          rcases List.mem_append.1 hx with hx | hx
          · exact g3 x hx
          · simp at hx; subst hx
            exact ⟨i, rfl, hi, pre.length, hcL, by rw [hst]; omega⟩
        · intro j c hc hj hs
          by_cases hjc : j < i ∨ j = i ∧ c < pre.length
          · exact List.mem_append_left _ (g4 j c hc hjc hs)
          · simp at hj
            have : j = i := by omega
            subst this; simp
      · obtain ⟨l', q1, q2, q3, q4⟩ := hb.has u hu
        refine ⟨l', by rw [get_set, if_neg hut]; exact q1, by simp; omega, q3, ?_⟩
        intro j c hc hj hs
        by_cases hjc : j < i ∨ j = i ∧ c < pre.length
        · exact q4 j c hc hjc hs
        · simp at hj
          have e1 : j = i := by omega
          have e2 : c = pre.length := by omega
          subst e1; subst e2
          rw [hst] at hs; omega
    · rw [ifB_not _ _ (decide_eq_false h0), hw]
      refine back_l6 h hi hr suf (pre ++ [t]) (by rw [← hp]; simp) _ ⟨hb.len, ?_⟩
      intro u hu
      obtain ⟨l', q1, q2, q3, q4⟩ := hb.has u hu
      refine ⟨l', q1, by simp; omega, q3, ?_⟩
      intro j c hc hj hs
      by_cases hjc : j < i ∨ j = i ∧ c < pre.length
      · exact q4 j c hc hjc hs
      · simp at hj
        have e1 : j = i := by omega
        have e2 : c = pre.length := by omega
        subst e1; subst e2
        rw [hst] at hs; omega

theorem back_l3 (h : W L N A) {S : Int} : ∀ (f i : Nat) (bk : LLI), i + f = N.length → Back L N i 0 bk →
    ∃ bk', Back L N N.length 0 bk' ∧ automaton_useful.l3 N (N.length : Nat) (i : Int) L S N A bk = automaton_useful.l15 A (A.length : Nat) 0 bk' (List.replicate N.length false) []
  | 0, i, bk, hf, hb => by
    have : i = N.length := by omega
    subst this
    have := h.n
    exact ⟨bk, hb, by rw [automaton_useful.l3_eq, ifB_not _ _ (decide_eq_false (by omega)), mkLen_ok (by omega)]; rfl⟩
  | f + 1, i, bk, hf, hb => by
    have := h.n
    have := h.l1
    have hi : i < N.length := by omega
    rw [automaton_useful.l3_eq, ifB_of _ _ (decide_eq_true (by omega)), ixAt_lt hi, bindD_some]
    obtain ⟨bk', h1, h2⟩ := back_l6 h (S := S) hi (List.getElem?_eq_getElem hi) N[i] [] rfl bk hb
    simp only [List.length_nil] at h2
    rw [show ((0 : Nat) : Int) = 0 from rfl] at h2
    rw [h2, w64_succ (by omega)]
    refine back_l3 h f (i + 1) bk' (by omega) ⟨h1.len, fun t ht => ?_⟩
    obtain ⟨l, g1, g2, g3, g4⟩ := h1.has t ht
    have := h.l8
    refine ⟨l, g1, by omega, g3, fun j c hc hj hs => g4 j c hc ?_ hs⟩
    omega

structure Todo (L : Int) (N : LLI) (A : LB) (x : Option Nat) (out : LB) (todo : List Int) : Prop where
  len : out.length = N.length
  snd : ∀ s : Nat, out[s]? = some true → live L N A (s : Int)
  tod : ∀ u ∈ todo, ∃ j : Nat, u = (j : Int) ∧ out[j]? = some true
  acc : ∀ s : Nat, A[s]? = some true → out[s]? = some true
  cls : ∀ s : Nat, s < N.length → out[s]? = some true → (s : Int) ∉ todo → some s ≠ x → ∀ j c : Nat, j < N.length → (c : Int) < L → stp N (j : Int) c = (s : Int) → out[j]? = some true
  sum : todo.length + fls out ≤ N.length

theorem use_l25 (h : W L N A) {bk : LLI} (hbk : Back L N N.length 0 bk) {s : Nat} (hs : s < N.length) (hlv : live L N A (s : Int)) {bl : List Int} (hbl : bk[s]? = some bl) : ∀ (suf pre : List Int), pre ++ suf = bl → ∀ out todo, Todo L N A (some s) out todo →
    (∀ u ∈ pre, ∃ j : Nat, u = (j : Int) ∧ out[j]? = some true) →
    ∃ out' todo', Todo L N A none out' todo' ∧ todo'.length + fls out' = todo.length + fls out ∧ automaton_useful.l25 bl (bl.length : Nat) (pre.length : Nat) bk out todo = automaton_useful.l21 bk out' todo'
  | [], pre, hp, out, todo, ht, hpre => by
    rw [List.append_nil] at hp; subst hp
    refine ⟨out, todo, ⟨ht.len, ht.snd, ht.tod, ht.acc, ?_, ht.sum⟩, rfl, by rw [automaton_useful.l25_eq, ifB_not _ _ (decide_eq_false (by omega))]⟩
    intro s' hs' ho hn _ j c hj hc hst
    by_cases e : s' = s
    · subst e
      obtain ⟨l, g1, g2, g3, g4⟩ := hbk.has s' hs'
      rw [hbl] at g1; cases g1
      obtain ⟨j', e1, e2⟩ := hpre _ (g4 j c hc (.inl hj) hst)
      have : j = j' := by omega
      subst this; exact e2
    · exact ht.cls s' hs' ho hn (by simpa using e) j c hj hc hst
  | u :: suf, pre, hp, out, todo, ht, hpre => by
    have hn := h.n
    obtain ⟨l, g1, g2, g3, g4⟩ := hbk.has s hs
    rw [hbl] at g1; cases g1
    have hu : bl[pre.length]? = some u := by rw [← hp]; simp
    have hlen : pre.length < bl.length := (List.getElem?_eq_some_iff.1 hu).1
    obtain ⟨j, e1, e2, c, e3, e4⟩ := g3 u (List.mem_of_getElem? hu)
    subst e1
    have hjo : j < out.length := by rw [ht.len]; exact e2
    have hw : IntKind.i64.wrap (((pre.length : Nat) : Int) + 1) = ((pre ++ [(j : Int)]).length : Nat) := by rw [w64_succ (by omega)]; simp
    rw [automaton_useful.l25_eq, ifB_of _ _ (decide_eq_true (by omega)), ixAt_nat, hu, bindD_some]
    have hix : ixAt out (j : Int) = some out[j] := ixAt_lt hjo
    rw [hix]
    simp only [bindD_some]
    cases hb : out[j] with
    | true =>
      rw [Bool.not_true, ifB_false, hw]
      refine use_l25 h hbk hs hlv hbl suf (pre ++ [(j : Int)]) (by rw [← hp]; simp) out todo ht ?_
      intro x hx
      rcases List.mem_append.1 hx with hx | hx
      · exact hpre x hx
      · simp at hx; subst hx
        exact ⟨j, rfl, by rw [List.getElem?_eq_getElem hjo, hb]⟩
    | false =>
      have hoj : out[j]? = some false := by rw [List.getElem?_eq_getElem hjo, hb]
      have hfl := fls_set hoj
      have hsum := ht.sum
      rw [Bool.not_false, ifB_true, grow_ok (by simp; omega)]
      simp only [bindD_some]
      rw [hw, setRow_nat]
      have hmono : ∀ k : Nat, out[k]? = some true → (out.set j true)[k]? = some true := by
        intro k hk
        rw [get_set]
        by_cases e : j = k
        · rw [if_pos e, if_pos hjo]
        · rw [if_neg e]; exact hk
      have hnew : (out.set j true)[j]? = some true := by rw [get_set, if_pos rfl, if_pos hjo]
      have hT : Todo L N A (some s) (out.set j true) (todo ++ [(j : Int)]) := by
        refine ⟨by simp [ht.len], ?_, ?_, fun k hk => hmono k (ht.acc k hk), ?_, by simp; omega⟩
        · intro k hk
          rw [get_set] at hk
          by_cases e : j = k
          · subst e
            exact live_back e3 (by rw [e4]; exact hlv)
          · rw [if_neg e] at hk; exact ht.snd k hk
        · intro x hx
          rcases List.mem_append.1 hx with hx | hx
          · obtain ⟨k, k1, k2⟩ := ht.tod x hx
            exact ⟨k, k1, hmono k k2⟩
          · simp at hx; subst hx
            exact ⟨j, rfl, hnew⟩
        · intro k hk hok hnk hkx j' c' hj' hc' hst'
          by_cases e : j = k
          · subst e; simp at hnk
          · rw [get_set, if_neg e] at hok
            exact hmono j' (ht.cls k hk hok (fun hm => hnk (List.mem_append_left _ hm)) hkx j' c' hj' hc' hst')
      have hPre : ∀ u ∈ pre ++ [(j : Int)], ∃ k : Nat, u = (k : Int) ∧ (out.set j true)[k]? = some true := by
        intro x hx
        rcases List.mem_append.1 hx with hx | hx
        · obtain ⟨k, k1, k2⟩ := hpre x hx
          exact ⟨k, k1, hmono k k2⟩
        · simp at hx; subst hx
          exact ⟨j, rfl, hnew⟩
      obtain ⟨out', todo', r1, r2, r3⟩ := use_l25 h hbk hs hlv hbl suf (pre ++ [(j : Int)]) (by rw [← hp]; simp) (out.set j true) (todo ++ [(j : Int)]) hT hPre
      exact ⟨out', todo', r1, by simp at r2; omega, r3⟩

theorem use_l21 (h : W L N A) {bk : LLI} (hbk : Back L N N.length 0 bk) : ∀ (f : Nat) (out : LB) (todo : List Int), Todo L N A none out todo → todo.length + fls out ≤ f →
    ∃ out', Todo L N A none out' [] ∧ automaton_useful.l21 bk out todo = some (out', ())
  | f, out, [], ht, hf => ⟨out, ht, by rw [automaton_useful.l21_eq, ifB_not _ _ (by simp)]⟩
  | 0, out, u :: todo, ht, hf => by simp at hf
  | f + 1, out, u :: todo, ht, hf => by
    obtain ⟨s, rfl, hso⟩ := ht.tod u List.mem_cons_self
    have hs : s < N.length := by rw [← ht.len]; exact (List.getElem?_eq_some_iff.1 hso).1
    obtain ⟨bl, g1, _⟩ := hbk.has s hs
    have hsub : subL ((s : Int) :: todo) 1 ((((s : Int) :: todo).length : Nat) : Int) = some todo := by
      unfold subL
      rw [if_pos (by simp; omega)]; simp
    have hT : Todo L N A (some s) out todo := by
      refine ⟨ht.len, ht.snd, fun u hu => ht.tod u (List.mem_cons_of_mem _ hu), ht.acc, ?_, by have := ht.sum; simp at this; omega⟩
      intro k hk hok hnk hkx j c hj hc hst
      refine ht.cls k hk hok ?_ (by simp) j c hj hc hst
      intro hm
      rcases List.mem_cons.1 hm with hm | hm
      · have : k = s := by omega
        subst this; exact hkx rfl
      · exact hnk hm
    obtain ⟨out', todo', r1, r2, r3⟩ := use_l25 h hbk hs (ht.snd s hso) g1 bl [] rfl out todo hT (by simp)
    simp only [List.length_nil] at r3
    rw [show ((0 : Nat) : Int) = 0 from rfl] at r3
    have hix : ixAt bk (s : Int) = some bl := by rw [ixAt_nat, g1]
    rw [automaton_useful.l21_eq, ifB_of _ _ (by simp), ixAt_zero]
    simp only [bindD_some]
    rw [hsub]
    simp only [bindD_some]
    rw [hix]
    simp only [bindD_some]
    rw [r3]
    exact use_l21 h hbk f out' todo' r1 (by simp at hf; omega)

structure Ini (N : LLI) (A : LB) (i : Nat) (out : LB) (todo : List Int) : Prop where
  len : out.length = N.length
  is : ∀ s : Nat, s < N.length → ((out[s]? = some true) ↔ (s < i ∧ A[s]? = some true))
  tod : ∀ u ∈ todo, ∃ j : Nat, u = (j : Int) ∧ out[j]? = some true
  mem : ∀ s : Nat, s < i → A[s]? = some true → (s : Int) ∈ todo
  sum : todo.length + fls out = N.length

theorem use_l15 (h : W L N A) {bk : LLI} (hbk : Back L N N.length 0 bk) : ∀ (suf pre : LB), pre ++ suf = A → ∀ out todo, Ini N A pre.length out todo →
    ∃ out', Todo L N A none out' [] ∧ automaton_useful.l15 A (A.length : Nat) (pre.length : Nat) bk out todo = some (out', ())
  | [], pre, hp, out, todo, hi => by
    rw [List.append_nil] at hp; subst hp
    rw [automaton_useful.l15_eq, ifB_not _ _ (decide_eq_false (by omega))]
    have ha := h.a
    refine use_l21 h hbk (todo.length + fls out) out todo ?_ (Nat.le_refl _)
    refine ⟨hi.len, ?_, hi.tod, ?_, ?_, by rw [hi.sum]; exact Nat.le_refl _⟩
    · intro s hs
      have hsl : s < N.length := by rw [← hi.len]; exact (List.getElem?_eq_some_iff.1 hs).1
      exact live_acc ((acc_nat _ s).2 ((hi.is s hsl).1 hs).2)
    · intro s hs
      have hsl := (List.getElem?_eq_some_iff.1 hs).1
      exact (hi.is s (by omega)).2 ⟨by omega, hs⟩
    · intro s hs hso hns
      have := (hi.is s hs).1 hso
      exact absurd (hi.mem s this.1 this.2) hns
  | b :: suf, pre, hp, out, todo, hi => by
    have ha := h.a
    have hn := h.n
    have hb : A[pre.length]? = some b := by rw [← hp]; simp
    have hlt : pre.length < A.length := (List.getElem?_eq_some_iff.1 hb).1
    have hw : IntKind.i64.wrap (((pre.length : Nat) : Int) + 1) = ((pre ++ [b]).length : Nat) := by rw [w64_succ (by omega)]; simp
    rw [automaton_useful.l15_eq, ifB_of _ _ (decide_eq_true (by omega)), ixAt_nat, hb, bindD_some]
    have hol : pre.length < out.length := by rw [hi.len]; omega
    cases b with
    | false =>
      rw [ifB_false, hw]
      refine use_l15 h hbk suf (pre ++ [false]) (by rw [← hp]; simp) out todo ⟨hi.len, ?_, hi.tod, ?_, hi.sum⟩
      · intro s hs
        rw [hi.is s hs]
        simp only [List.length_append, List.length_cons, List.length_nil]
        constructor
        · rintro ⟨h1, h2⟩; exact ⟨by omega, h2⟩
        · rintro ⟨h1, h2⟩
          refine ⟨?_, h2⟩
          have : s ≠ pre.length := by rintro rfl; rw [hb] at h2; cases h2
          omega
      · intro s hs has
        simp only [List.length_append, List.length_cons, List.length_nil] at hs
        have : s ≠ pre.length := by rintro rfl; rw [hb] at has; cases has
        exact hi.mem s (by omega) has
    | true =>
      have hof : out[pre.length]? = some false := by
        have h1 := List.getElem?_eq_getElem hol
        cases hx : out[pre.length] with
        | false => rw [h1, hx]
        | true =>
          have := (hi.is pre.length (by omega)).1 (by rw [h1, hx])
          omega
      have hfl := fls_set hof
      have hsum := hi.sum
      rw [ifB_true, ixAt_nat, hof]
      simp only [bindD_some]
      rw [grow_ok (by simp; omega)]
      simp only [bindD_some]
      rw [hw, setRow_nat]
      have hnew : (out.set pre.length true)[pre.length]? = some true := by rw [get_set, if_pos rfl, if_pos hol]
      have hI : Ini N A (pre ++ [true]).length (out.set pre.length true) (todo ++ [((pre.length : Nat) : Int)]) := by
        refine ⟨by simp [hi.len], ?_, ?_, ?_, by simp; omega⟩
        · intro s hs
          by_cases e : pre.length = s
          · subst e
            simp only [List.length_append, List.length_cons, List.length_nil]
            exact ⟨fun _ => ⟨by omega, hb⟩, fun _ => hnew⟩
          · rw [get_set, if_neg e, hi.is s hs]
            simp only [List.length_append, List.length_cons, List.length_nil]
            constructor
            · rintro ⟨h1, h2⟩; exact ⟨by omega, h2⟩
            · rintro ⟨h1, h2⟩; exact ⟨by omega, h2⟩
        · intro x hx
          rcases List.mem_append.1 hx with hx | hx
          · obtain ⟨k, k1, k2⟩ := hi.tod x hx
            refine ⟨k, k1, ?_⟩
            rw [get_set]
            by_cases e : pre.length = k
            · rw [if_pos e, if_pos hol]
            · rw [if_neg e]; exact k2
          · simp at hx; subst hx; exact ⟨pre.length, rfl, hnew⟩
        · intro s hs has
          simp only [List.length_append, List.length_cons, List.length_nil] at hs
          by_cases e : s = pre.length
          · subst e; simp
          · exact List.mem_append_left _ (hi.mem s (by omega) has)
      exact use_l15 h hbk suf (pre ++ [true]) (by rw [← hp]; simp) _ _ hI

theorem todo_lv (h : W L N A) {out : LB} (ht : Todo L N A none out []) : LvOk L N A out := by
  refine ⟨ht.len, fun s hs => ⟨ht.snd s, fun hl => ?_⟩⟩
  have := live_ind h (P := fun s => out[s.toNat]? = some true) (fun s h0 h1 ha => ?_) (fun s c h0 h1 hc h2 hp => ?_) (s := (s : Int)) (by omega) hl
  · simpa using this
  · refine ht.acc _ ((acc_nat A s.toNat).1 ?_)
    rw [Int.toNat_of_nonneg h0]; exact ha
  · have hst := (stp_W h ⟨by omega, h1⟩ hc).1
    refine ht.cls (stp N s c).toNat (by omega) hp (by simp) (by simp) s.toNat c (by omega) hc ?_
    rw [Int.toNat_of_nonneg h0, Int.toNat_of_nonneg h2]

theorem useful_f (h : W L N A) (S : Int) : ∃ lv, LvOk L N A lv ∧ automaton_useful.f L S N A = some (lv, ()) := by
  have hn := h.n
  have hb0 : Back L N 0 0 (List.replicate N.length []) := by
    refine ⟨by simp, fun t ht => ⟨[], by simp [ht], by simp, by simp, ?_⟩⟩
    intro j c _ hj; omega
  obtain ⟨bk, h1, h2⟩ := back_l3 h (S := S) N.length 0 _ (by omega) hb0
  have hi0 : Ini N A 0 (List.replicate N.length false) [] := by
    refine ⟨by simp, ?_, by simp, by simp, by simp [fls_rep]⟩
    intro s hs
    simp [hs]
  obtain ⟨out, h3, h4⟩ := use_l15 h h1 A [] rfl _ _ hi0
  refine ⟨out, todo_lv h h3, ?_⟩
  rw [automaton_useful.f_eq, mkLen_ok (by omega)]
  simp only [bindD_some]
  rw [show ((0 : Nat) : Int) = 0 from rfl] at h2
  rw [h2]
  exact h4

/-! ### the reference's -/
structure Mrk (L : Int) (N : LLI) (A : LB) (out : LB) : Prop where
  len : out.length = N.length
  snd : ∀ s : Nat, out[s]? = some true → live L N A (s : Int)
  acc : ∀ s : Nat, A[s]? = some true → out[s]? = some true
end
end Go.Proofs.C07.M
