/- Both texts tell the automaton of the language. -/
import Derived.Test.YtmbloefhgkhoaaaM07j
set_option linter.unusedVariables false
set_option linter.unusedSimpArgs false
namespace Go.Proofs.C07.M
open Go Go.Proofs.R
set_option linter.unusedVariables false
set_option linter.unusedSimpArgs false
set_option maxRecDepth 100000

abbrev TI : Ty := .int .i64
theorem mgetI {β : Type} (z : β) (q q' : Int) (v : β) : ∀ m : List (Int × β), mget TI z q' (mput TI q v m) = if q' = q then (v, true) else mget TI z q' m
  | [] => by
    show (bif decide (q' = q) then (v, true) else (z, false)) = _
    by_cases h : q' = q <;> simp [h, mget]
  | p :: m => by
    show mget TI z q' (bif decide (q = p.1) then (p.1, v) :: m else p :: mput TI q v m) = if q' = q then (v, true) else (bif decide (q' = p.1) then (p.2, true) else mget TI z q' m)
    by_cases h1 : q = p.1
    · simp only [h1, decide_true, cond_true]
      show (bif decide (q' = p.1) then (v, true) else mget TI z q' m) = _
      by_cases h2 : q' = p.1 <;> simp [h2]
    · simp only [h1, decide_false, cond_false]
      show (bif decide (q' = p.1) then (p.2, true) else mget TI z q' (mput TI q v m)) = _
      by_cases h2 : q' = p.1
      · have h3 : ¬ q' = q := fun e => h1 (by rw [← e, h2])
        rw [if_neg h3]; simp [h2]
      · simp only [h2, decide_false, cond_false]
        exact mgetI z q q' v m

section
variable {L : Int} {N : LLI} {A : LB}
open Classical in
def MapOk (L : Int) (N : LLI) (A : LB) (v : List Int) (m : List (Int × Int)) (fs : List Lang) : Prop :=
  ∀ t : Nat, t < N.length → live L N A (t : Int) → mget TI (0 : Int) (cat v t) m = if lang L N A t ∈ fs then (((place (lang L N A t) fs : Nat) : Int), true) else (0, false)
theorem MapOk.put {v : List Int} {m : List (Int × Int)} {fs : List Lang} (hv : Cls L N A v) (h : MapOk L N A v m fs) {t : Nat} (ht : t < N.length) (hl : live L N A (t : Int)) (hn : lang L N A t ∉ fs) :
    MapOk L N A v (mput TI (cat v t) ((fs.length : Nat) : Int) m) (putIn (lang L N A t) fs) := by
  intro u hu hlu
  rw [mgetI]
  by_cases e : cat v u = cat v t
  · have := (hv.eq u t hu ht hlu hl).1 e
    rw [if_pos e, this, if_pos (putIn_mem _ _), place_putIn, place_not hn]
  · have hne : lang L N A u ≠ lang L N A t := fun h => e ((hv.eq u t hu ht hlu hl).2 h)
    rw [if_neg e, h u hu hlu]
    have hp : putIn (lang L N A t) fs = fs ++ [lang L N A t] := by unfold putIn; rw [if_neg hn]
    by_cases hm : lang L N A u ∈ fs
    · rw [if_pos hm, if_pos (by rw [hp]; exact List.mem_append_left _ hm), hp, place_app hm]
    · rw [if_neg hm, if_neg (by rw [hp]; simp [hm, hne])]
theorem mapOk_start {v : List Int} (hv : Cls L N A v) {t : Nat} (ht : t < N.length) (hl : live L N A (t : Int)) : MapOk L N A v (mput TI (cat v t) 0 []) [lang L N A t] := by
  have h0 : MapOk L N A v [] [] := fun u hu hlu => by simp [mget]
  have := MapOk.put hv h0 ht hl (by simp)
  have hp : putIn (lang L N A t) ([] : List Lang) = [lang L N A t] := by unfold putIn; simp
  rw [hp] at this; exact this

structure StOk (L : Int) (N : LLI) (A : LB) (st : List Int) (fs : List Lang) : Prop where
  m : st.map (lang L N A) = fs
  r : ∀ s ∈ st, 0 ≤ s ∧ s < N.length
theorem StOk.len {st : List Int} {fs : List Lang} (h : StOk L N A st fs) : st.length = fs.length := by rw [← h.m]; simp
theorem StOk.put {st : List Int} {fs : List Lang} (h : StOk L N A st fs) {t : Int} (ht : 0 ≤ t ∧ t < N.length) (hn : lang L N A t ∉ fs) : StOk L N A (st ++ [t]) (putIn (lang L N A t) fs) := by
  refine ⟨?_, ?_⟩
  · unfold putIn; rw [if_neg hn, List.map_append, h.m]; rfl
  · intro s hs
    rcases List.mem_append.1 hs with hs | hs
    · exact h.r s hs
    · simp at hs; subst hs; exact ht

/-- what is known of a state that comes next -/
theorem num_cases {v : List Int} {m : List (Int × Int)} {fs : List Lang} (hv : Cls L N A v) (hm : MapOk L N A v m fs) {t : Int} (ht : -1 ≤ t ∧ t < N.length) :
    (t < 0 ∧ lang L N A t = emp) ∨ (0 ≤ t ∧ ixAt v t = some 0 ∧ lang L N A t = emp) ∨
    (0 ≤ t ∧ ∃ x, ixAt v t = some x ∧ x ≠ 0 ∧ x = cat v t.toNat ∧ live L N A t ∧ ((lang L N A t ∈ fs ∧ mget TI (0 : Int) x m = (((place (lang L N A t) fs : Nat) : Int), true)) ∨ (lang L N A t ∉ fs ∧ mget TI (0 : Int) x m = (0, false)))) := by
  by_cases h0 : t < 0
  · exact .inl ⟨h0, lang_neg h0⟩
  · have hnn : 0 ≤ t := by omega
    have htn : t.toNat < N.length := by omega
    have e : ((t.toNat : Nat) : Int) = t := Int.toNat_of_nonneg hnn
    have hix : ixAt v t = some (cat v t.toNat) := by rw [ixAt_int v hnn, cat_at (by rw [hv.z.len]; exact htn)]
    have hz := hv.z.zero t.toNat htn
    rw [e] at hz
    by_cases hl : live L N A t
    · refine .inr (.inr ⟨hnn, _, hix, fun h => hz.1 h hl, rfl, hl, ?_⟩)
      have := hm t.toNat htn (by rw [e]; exact hl)
      rw [e] at this
      by_cases hin : lang L N A t ∈ fs
      · rw [if_pos hin] at this; exact .inl ⟨hin, this⟩
      · rw [if_neg hin] at this; exact .inr ⟨hin, this⟩
    · exact .inr (.inl ⟨hnn, by rw [hix, hz.2 hl], Classical.byContradiction hl⟩)

theorem min_l16 (h : W L N A) {S : Int} {v : List Int} (hv : Cls L N A v) {i : Nat} (hiN : i < 4611686018427387904) {s : Int} (hs : 0 ≤ s ∧ s < N.length) {r : List Int} (hr : N[s.toNat]? = some r) {a : Bool} (ha : ixAt A s = some a) {oN : LLI} {oA : LB} (hoN : oN.length ≤ N.length) (hoA : oA.length ≤ N.length) :
    ∀ (f c : Nat) (st : List Int) (fs : List Lang) (m : List (Int × Int)) (row : List Int), c + f = L.toNat → row.length = c → StOk L N A st fs → MapOk L N A v m fs → Fnd (Lin L N A) fs →
    ∃ st' m', StOk L N A st' (cRow (lang L N A s) f c fs row).2 ∧ MapOk L N A v m' (cRow (lang L N A s) f c fs row).2 ∧
      automaton_minimal.l16 (i : Int) s r (r.length : Nat) (c : Int) L S N A 0 0 L 0 v m st (row ++ List.replicate f 0) [] [] oN oA =
      automaton_minimal.l11 ((i + 1 : Nat) : Int) L S N A 0 0 L 0 v m' st' [] [] (oN ++ [(cRow (lang L N A s) f c fs row).1]) (oA ++ [a])
  | 0, c, st, fs, m, row, hc, hrl, hst, hm, hf => by
    have hrow := h.row r (List.mem_of_getElem? hr)
    have h1 := h.l1
    have hn := h.n
    refine ⟨st, m, hst, hm, ?_⟩
    rw [automaton_minimal.l16_eq, ifB_not _ _ (decide_eq_false (by omega)), grow_ok (by simp; omega)]
    simp only [bindD_some]
    rw [ha]
    simp only [bindD_some]
    rw [grow_ok (by simp; omega), bindD_some, w64_succ (by omega)]
    simp [cRow]
  | f + 1, c, st, fs, m, row, hc, hrl, hst, hm, hf => by
    have hrow := h.row r (List.mem_of_getElem? hr)
    have h1 := h.l1
    have h8 := h.l8
    have hn := h.n
    have hcL : (c : Int) < L := by omega
    have hcr : c < r.length := by omega
    have hct : r[c]? = some r[c] := List.getElem?_eq_getElem hcr
    have htr := hrow.2 r[c] (List.getElem_mem hcr)
    have hst' : stp N s c = r[c] := by
      have := stp_nat (N := N) (s := s.toNat) hr hct
      rw [Int.toNat_of_nonneg hs.1] at this; exact this
    have hder : der (lang L N A s) c = lang L N A r[c] := by rw [lang_der hcL, hst']
    have hfl := fnd_len hf
    have hsl := hst.len
    have hw : IntKind.i64.wrap ((c : Int) + 1) = ((c + 1 : Nat) : Int) := w64_succ (by omega)
    have hrx : ∃ z, ixAt (row ++ List.replicate (f + 1) (0 : Int)) (c : Int) = some z := ⟨_, ixAt_lt (by simp; omega)⟩
    obtain ⟨z, hz⟩ := hrx
    have hset : ∀ x : Int, setRow (row ++ List.replicate (f + 1) (0 : Int)) (c : Int) x = (row ++ [x]) ++ List.replicate f 0 := by
      intro x
      rw [setRow_nat, List.set_append_right _ _ (by omega), hrl, Nat.sub_self, List.replicate_succ, List.set_cons_zero]; simp
    rw [automaton_minimal.l16_eq, ifB_of _ _ (decide_eq_true (by omega)), ixAt_nat, hct, bindD_some]
    simp only [cRow]
    rw [hder]
    rcases num_cases hv hm htr with ⟨e1, e2⟩ | ⟨e1, e2, e3⟩ | ⟨e1, x, e2, e3, e4, e5, e6⟩
    · have hnum : cNum (lang L N A r[c]) fs = -1 := by unfold cNum; rw [if_pos e2]
      have hput : cPut (lang L N A r[c]) fs = fs := by unfold cPut; rw [if_pos e2]
      rw [ifB_of _ _ (decide_eq_true e1), hz]
      simp only [bindD_some]
      rw [hset, hw, hnum, hput]
      exact min_l16 h hv hiN hs hr ha hoN hoA f (c + 1) st fs m (row ++ [-1]) (by omega) (by simp [hrl]) hst hm hf
    · have hnum : cNum (lang L N A r[c]) fs = -1 := by unfold cNum; rw [if_pos e3]
      have hput : cPut (lang L N A r[c]) fs = fs := by unfold cPut; rw [if_pos e3]
      rw [ifB_not _ _ (decide_eq_false (by omega)), e2]
      simp only [bindD_some]
      rw [ifB_of _ _ (by rfl), hz]
      simp only [bindD_some]
      rw [hset, hw, hnum, hput]
      exact min_l16 h hv hiN hs hr ha hoN hoA f (c + 1) st fs m (row ++ [-1]) (by omega) (by simp [hrl]) hst hm hf
    · have hnum : cNum (lang L N A r[c]) fs = ((place (lang L N A r[c]) fs : Nat) : Int) := by unfold cNum; rw [if_neg e5]
      have hput : cPut (lang L N A r[c]) fs = putIn (lang L N A r[c]) fs := by unfold cPut; rw [if_neg e5]
      rw [ifB_not _ _ (decide_eq_false (by omega)), e2]
      simp only [bindD_some]
      rw [ifB_not _ _ (beq_eq_false_iff_ne.2 e3)]
      rcases e6 with ⟨g1, g2⟩ | ⟨g1, g2⟩
      · have hput' : putIn (lang L N A r[c]) fs = fs := by unfold putIn; rw [if_pos g1]
        rw [ifB_not _ _ (by rw [g2]; rfl), hz]
        simp only [bindD_some]
        rw [g2, hset, hw, hnum, hput, hput']
        exact min_l16 h hv hiN hs hr ha hoN hoA f (c + 1) st fs m (row ++ [_]) (by omega) (by simp [hrl]) hst hm hf
      · have hf2 := hf.put (lin_lang htr)
        rw [hput] at hf2
        have hlen2 := putIn_len (lang L N A r[c]) fs
        rw [ifB_of _ _ (by rw [g2]; rfl)]
        have hgr : grow (st.length + (r[c] :: ([] : List Int)).length) = some () := grow_ok (by simp; omega)
        rw [hgr]
        simp only [bindD_some]
        rw [hz]
        simp only [bindD_some]
        rw [hset, hw, hnum, hput, place_not g1, hsl, e4]
        have hmp := hm.put hv (t := r[c].toNat) (by omega) (by rw [Int.toNat_of_nonneg e1]; exact e5) (by rw [Int.toNat_of_nonneg e1]; exact g1)
        rw [Int.toNat_of_nonneg e1] at hmp
        exact min_l16 h hv hiN hs hr ha hoN hoA f (c + 1) (st ++ [r[c]]) _ _ (row ++ [_]) (by omega) (by simp [hrl]) (hst.put ⟨e1, htr.2⟩ g1) hmp hf2

theorem min_l11 (h : W L N A) {S : Int} {v : List Int} (hv : Cls L N A v) : ∀ (f i : Nat) (st : List Int) (fs : List Lang) (m : List (Int × Int)) (oN : LLI) (oA : LB), StOk L N A st fs → MapOk L N A v m fs → Fnd (Lin L N A) fs → i ≤ fs.length → N.length < i + f → oN.length = i → oA = (fs.take i).map (fun x => x []) →
    automaton_minimal.l11 (i : Int) L S N A 0 0 L 0 v m st [] [] oN oA = some (L, (0, ((cAll L.toNat f i fs oN).1, ((cAll L.toNat f i fs oN).2.map (fun x => x []), ()))))
  | 0, i, st, fs, m, oN, oA, hst, hm, hf, hi, hfu, hoN, hoA => by
    have := fnd_len hf
    omega
  | f + 1, i, st, fs, m, oN, oA, hst, hm, hf, hi, hfu, hoN, hoA => by
    have hfl := fnd_len hf
    have hsl := hst.len
    have hn := h.n
    have h1 := h.l1
    have h8 := h.l8
    rw [automaton_minimal.l11_eq]
    simp only [cAll]
    cases hx : fs[i]? with
    | none =>
      have : fs.length ≤ i := List.getElem?_eq_none_iff.1 hx
      rw [ifB_not _ _ (decide_eq_false (by omega)), hoA, List.take_of_length_le this]
    | some l =>
      have hil := (List.getElem?_eq_some_iff.1 hx).1
      have his : i < st.length := by omega
      have hsi : st[i]? = some st[i] := List.getElem?_eq_getElem his
      have hsr := hst.r _ (List.getElem_mem his)
      have hl : lang L N A st[i] = l := by
        have := hst.m
        rw [← this] at hx
        rw [List.getElem?_map, hsi] at hx
        simpa using hx
      have hsn : (st[i]).toNat < N.length := by omega
      have hr := List.getElem?_eq_getElem hsn
      have hLn : mkLen L L = some L.toNat := by
        have := mkLen_ok (n := L.toNat) (by omega)
        rw [Int.toNat_of_nonneg (by omega)] at this; exact this
      have haA : (st[i]).toNat < A.length := by rw [h.a]; exact hsn
      have hax : ixAt A st[i] = some (l []) := by
        rw [ixAt_int A hsr.1, List.getElem?_eq_getElem haA, ← hl, lang_nil]
        unfold acc
        rw [if_pos hsr.1, List.getElem?_eq_getElem haA]; rfl
      rw [ifB_of _ _ (decide_eq_true (by omega)), ixAt_nat, hsi]
      simp only [bindD_some]
      rw [hLn]
      simp only [bindD_some]
      rw [ixAt_int N hsr.1, hr]
      simp only [bindD_some]
      obtain ⟨st', m', r1, r2, r3⟩ := min_l16 h (S := S) hv (i := i) (by omega) hsr hr hax (oN := oN) (oA := oA) (by omega) (by rw [hoA]; simp; omega) L.toNat 0 st fs m [] (by omega) rfl hst hm hf
      rw [List.nil_append, show ((0 : Nat) : Int) = 0 from rfl] at r3
      rw [r3, hl]
      rw [hl] at r1 r2
      have hlP := hf.p l (List.mem_of_getElem? hx)
      obtain ⟨⟨e, he⟩, hf2, _, _⟩ := cRow_facts (lin_der h) hlP L.toNat 0 fs [] (by omega) rfl hf (fun k t hk => by simp at hk)
      exact min_l11 h hv f (i + 1) st' _ m' _ _ r1 r2 hf2 (by rw [he]; simp; omega) (by omega) (by simp [hoN]) (by
        rw [he, List.take_append_of_le_length (by omega), hoA, List.take_succ_eq_append_getElem hil]
        have : fs[i] = l := by rw [List.getElem?_eq_getElem hil] at hx; exact Option.some.inj hx
        rw [List.map_append, this]; rfl)

/-- what is told of the language of a state -/
noncomputable def minR (L : Int) (l : Lang) : Int × Int × LLI × LB × Unit := (L, (canS l, (canN L l, (canA L l, ()))))
theorem minR_emp (L : Int) : minR L emp = (L, (-1, ([], ([], ())))) := by
  unfold minR canS canN canA; rw [if_pos rfl, if_pos rfl, if_pos rfl]
theorem minR_ne (L : Int) {l : Lang} (h : l ≠ emp) : minR L l = (L, (0, ((cRes L l).1, ((cRes L l).2.map (fun x => x []), ())))) := by
  unfold minR canS canN canA; rw [if_neg h, if_neg h, if_neg h]

theorem minimal_f (h : W L N A) {S : Int} (hS : -1 ≤ S ∧ S < N.length) : automaton_minimal.f L S N A = some (minR L (lang L N A S)) := by
  rw [automaton_minimal.f_eq]
  by_cases h0 : S < 0
  · rw [ifB_of _ _ (decide_eq_true h0), lang_neg h0, minR_emp]
  · obtain ⟨v, hv, hc⟩ := classes_f h S
    have hSn : S.toNat < N.length := by omega
    have e : ((S.toNat : Nat) : Int) = S := Int.toNat_of_nonneg (by omega)
    have hix : ixAt v S = some (cat v S.toNat) := by rw [ixAt_int v (by omega), cat_at (by rw [hv.z.len]; exact hSn)]
    have hz := hv.z.zero S.toNat hSn
    rw [e] at hz
    rw [ifB_not _ _ (decide_eq_false h0), hc]
    simp only [bindD_some]
    rw [hix]
    simp only [bindD_some]
    by_cases hl : live L N A S
    · rw [ifB_not _ _ (beq_eq_false_iff_ne.2 fun e => hz.1 e hl), minR_ne L hl]
      have hms := mapOk_start hv hSn (by rw [e]; exact hl)
      rw [e] at hms
      have := min_l11 h (S := S) hv fuelC 0 [S] [lang L N A S] _ [] [] ⟨rfl, by simp; omega⟩ hms (fnd_start (lin_lang hS) hl) (by simp) (by have := h.n; unfold fuelC; omega) rfl rfl
      rw [show ((0 : Nat) : Int) = 0 from rfl] at this
      exact this
    · rw [ifB_of _ _ (by rw [hz.2 hl]; rfl), show lang L N A S = emp from Classical.byContradiction hl, minR_emp]

/-! ### the reference's -/
/-! ### equal automata -/
theorem same_l9 (L S : Int) (N : LLI) (L' S' : Int) (N' : LLI) : ∀ (f i : Nat) (A A' : LB), A.length = A'.length → i + f = A.length → A.length < 4611686018427387904 → A.take i = A'.take i →
    ancepsref06_SameDFA.l9 (i : Int) L S N A L' S' N' A' = some (decide (A = A'), ())
  | 0, i, A, A', hl, hf, hm, ht => by
    rw [ancepsref06_SameDFA.l9_eq, ifB_not _ _ (decide_eq_false (by omega))]
    have : A = A' := by rw [List.take_of_length_le (by omega), List.take_of_length_le (by omega)] at ht; exact ht
    simp [this]
  | f + 1, i, A, A', hl, hf, hm, ht => by
    have h1 : i < A.length := by omega
    have h2 : i < A'.length := by omega
    rw [ancepsref06_SameDFA.l9_eq, ifB_of _ _ (decide_eq_true (by omega)), ixAt_lt h1, ixAt_lt h2]
    simp only [bindD_some]
    by_cases e : A[i] = A'[i]
    · rw [ifB_not _ _ (by simp [e]), w64_succ (by omega)]
      refine same_l9 L S N L' S' N' f (i + 1) A A' hl (by omega) hm ?_
      rw [List.take_succ_eq_append_getElem h1, List.take_succ_eq_append_getElem h2, ht, e]
    · have hb : (A[i] == A'[i]) = false := beq_eq_false_iff_ne.2 e
      rw [ifB_of _ _ (by rw [hb]; rfl)]
      have : ¬ A = A' := by rintro rfl; exact e rfl
      simp [this]
theorem same_l4 (L S : Int) (A : LB) (L' S' : Int) (A' : LB) (ha : A.length = A'.length) (ham : A.length < 4611686018427387904) : ∀ (f i : Nat) (N N' : LLI), N.length = N'.length → (∀ r ∈ N, r.length < 4611686018427387904) → i + f = N.length → N.length < 4611686018427387904 → N.take i = N'.take i →
    ancepsref06_SameDFA.l4 (i : Int) L S N A L' S' N' A' = some (decide (N = N') && decide (A = A'), ())
  | 0, i, N, N', hl, hr, hf, hm, ht => by
    rw [ancepsref06_SameDFA.l4_eq, ifB_not _ _ (decide_eq_false (by omega))]
    have : N = N' := by rw [List.take_of_length_le (by omega), List.take_of_length_le (by omega)] at ht; exact ht
    have h9 := same_l9 L S N L' S' N' A.length 0 A A' ha (by omega) ham (by simp)
    rw [show ((0 : Nat) : Int) = 0 from rfl] at h9
    rw [h9]; simp [this]
  | f + 1, i, N, N', hl, hr, hf, hm, ht => by
    have h1 : i < N.length := by omega
    have h2 : i < N'.length := by omega
    rw [ancepsref06_SameDFA.l4_eq, ifB_of _ _ (decide_eq_true (by omega)), ixAt_lt h1, ixAt_lt h2]
    simp only [bindD_some]
    rw [requal_f _ _ (hr _ (List.getElem_mem h1)), bindD_some]
    by_cases e : N[i] = N'[i]
    · rw [ifB_not _ _ (by simp [e]), w64_succ (by omega)]
      refine same_l4 L S A L' S' A' ha ham f (i + 1) N N' hl hr (by omega) hm ?_
      rw [List.take_succ_eq_append_getElem h1, List.take_succ_eq_append_getElem h2, ht, e]
    · rw [ifB_of _ _ (by simp [e])]
      have : ¬ N = N' := by rintro rfl; exact e rfl
      simp [this]
theorem same_f (L S : Int) (N : LLI) (A : LB) (L' S' : Int) (N' : LLI) (A' : LB) (hr : ∀ r ∈ N, r.length < 4611686018427387904) (hN : N.length < 4611686018427387904) (hA : A.length < 4611686018427387904) :
    ancepsref06_SameDFA.f L S N A L' S' N' A' = some (decide (L = L' ∧ S = S' ∧ N = N' ∧ A = A'), ()) := by
  rw [ancepsref06_SameDFA.f_eq]
  by_cases h1 : L = L'
  case neg => rw [ifB_of _ _ (bne_iff_ne.2 h1)]; simp [h1]
  by_cases h2 : S = S'
  case neg => rw [ifB_not _ _ (by simp [h1]), ifB_of _ _ (bne_iff_ne.2 h2)]; simp [h2]
  by_cases h3 : N.length = N'.length
  case neg =>
    have : ¬ N = N' := by rintro rfl; exact h3 rfl
    rw [ifB_not _ _ (by simp [h1]), ifB_not _ _ (by simp [h2]), ifB_of _ _ (bne_iff_ne.2 (by omega))]; simp [this]
  by_cases h4 : A.length = A'.length
  case neg =>
    have : ¬ A = A' := by rintro rfl; exact h4 rfl
    rw [ifB_not _ _ (by simp [h1]), ifB_not _ _ (by simp [h2]), ifB_not _ _ (by simp [h3]), ifB_of _ _ (bne_iff_ne.2 (by omega))]; simp [this]
  rw [ifB_not _ _ (by simp [h1]), ifB_not _ _ (by simp [h2]), ifB_not _ _ (by simp [h3]), ifB_not _ _ (by simp [h4])]
  have := same_l4 L S A L' S' A' h4 hA N.length 0 N N' h3 hr (by omega) hN (by simp)
  rw [show ((0 : Nat) : Int) = 0 from rfl] at this
  rw [this]
  simp [h1, h2, Bool.decide_and]
end
end Go.Proofs.C07.M
