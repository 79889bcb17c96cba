/- The classes of equal languages: both texts refine in the same way. -/
import Derived.Test.YtmbloefhgkhoaaaM07h
set_option linter.unusedVariables false
set_option linter.unusedSimpArgs false
namespace Go.Proofs.C07.M
open Go Go.Proofs.R
set_option linter.unusedVariables false
set_option linter.unusedSimpArgs false
set_option maxRecDepth 100000

def cat (c : List Int) (s : Nat) : Int := c[s]?.getD 0
def cget (c : List Int) (t : Int) : Int := if t < 0 then 0 else cat c t.toNat
def keyC (c : List Int) (s : Nat) (r : List Int) : List Int := cat c s :: r.map (cget c)
noncomputable def namesF (c : List Int) : LLI → Nat → LLI → LLI
  | [], _, ns => ns
  | r :: rs, s, ns => namesF c rs (s + 1) (if cat c s = 0 then ns else putIn (keyC c s r) ns)
noncomputable def namesC (N : LLI) (c : List Int) : LLI := namesF c N 0 []
noncomputable def nextF (c : List Int) (ns : LLI) : LLI → Nat → List Int
  | [], _ => []
  | r :: rs, s => (if cat c s = 0 then 0 else ((place (keyC c s r) ns + 1 : Nat) : Int)) :: nextF c ns rs (s + 1)
noncomputable def nextC (N : LLI) (c : List Int) : List Int := nextF c (namesC N c) N 0

theorem namesF_pre (c : List Int) : ∀ (rs : LLI) (s : Nat) (ns : LLI), ∃ e, namesF c rs s ns = ns ++ e
  | [], s, ns => ⟨[], by simp [namesF]⟩
  | r :: rs, s, ns => by
    obtain ⟨e, h⟩ := namesF_pre c rs (s + 1) (if cat c s = 0 then ns else putIn (keyC c s r) ns)
    show ∃ e, namesF c rs (s + 1) _ = _
    rw [h]
    split
    · exact ⟨e, rfl⟩
    · obtain ⟨e', h'⟩ := putIn_pre (keyC c s r) ns
      rw [h']; exact ⟨e' ++ e, by simp⟩
theorem putIn_len {α : Type} (d : α) (l : List α) : (putIn d l).length ≤ l.length + 1 := by unfold putIn; split <;> simp
theorem namesF_len (c : List Int) : ∀ (rs : LLI) (s : Nat) (ns : LLI), (namesF c rs s ns).length ≤ ns.length + rs.length
  | [], s, ns => by simp [namesF]
  | r :: rs, s, ns => by
    have h := namesF_len c rs (s + 1) (if cat c s = 0 then ns else putIn (keyC c s r) ns)
    show (namesF c rs (s + 1) _).length ≤ _
    have h2 := putIn_len (keyC c s r) ns
    simp only [List.length_cons]
    split at h
    · rename_i h0; rw [if_pos h0]; omega
    · rename_i h0; rw [if_neg h0]; omega
theorem names_le (N : LLI) (c : List Int) : (namesC N c).length ≤ N.length := by have := namesF_len c N 0 []; unfold namesC; simpa using this
theorem nextF_len (c : List Int) (ns : LLI) : ∀ (rs : LLI) (s : Nat), (nextF c ns rs s).length = rs.length
  | [], s => rfl
  | r :: rs, s => by simp [nextF, nextF_len c ns rs (s + 1)]
theorem next_len (N : LLI) (c : List Int) : (nextC N c).length = N.length := nextF_len _ _ _ _

/-! ### maps whose keys are rows of nine -/
abbrev T9 : Ty := .arr 9 (.int .i64)
theorem listEq_int : ∀ xs ys : List Int, listEq (keyEq (.int .i64)) xs ys = decide (xs = ys)
  | [], [] => rfl
  | [], y :: ys => rfl
  | x :: xs, [] => rfl
  | x :: xs, y :: ys => by
    show (keyEq (.int .i64) x y && listEq (keyEq (.int .i64)) xs ys) = _
    rw [listEq_int xs ys]
    show (decide (x = y) && decide (xs = ys)) = _
    by_cases h1 : x = y <;> by_cases h2 : xs = ys <;> simp [h1, h2]
theorem mget9 {β : Type} (z : β) (q q' : List Int) (v : β) : ∀ m : List (List Int × β), (mget T9 z q' (mput T9 q v m)).1 = if q' = q then v else (mget T9 z q' m).1
  | [] => by
    show (bif listEq _ q' q then (v, true) else (z, false)).1 = _
    rw [listEq_int]
    by_cases h : q' = q <;> simp [h, mget]
  | p :: m => by
    show (mget T9 z q' (bif listEq _ q p.1 then (p.1, v) :: m else p :: mput T9 q v m)).1 = if q' = q then v else (bif listEq _ q' p.1 then (p.2, true) else mget T9 z q' m).1
    rw [listEq_int, listEq_int]
    by_cases h1 : q = p.1
    · simp only [h1, decide_true, cond_true]
      show (bif listEq _ q' p.1 then (v, true) else mget T9 z q' m).1 = _
      rw [listEq_int]
      by_cases h2 : q' = p.1 <;> simp [h2]
    · simp only [h1, decide_false, cond_false]
      show (bif listEq _ q' p.1 then (p.2, true) else mget T9 z q' (mput T9 q v m)).1 = _
      rw [listEq_int]
      by_cases h2 : q' = p.1
      · have h3 : ¬ q' = q := fun e => h1 (e ▸ h2)
        rw [if_neg h3]; simp [h2]
      · simp only [h2, decide_false, cond_false]
        exact mget9 z q q' v m
theorem mput9_len {β : Type} (q : List Int) (v : β) : ∀ m : List (List Int × β), (∀ p ∈ m, p.1 ≠ q) → (mput T9 q v m).length = m.length + 1
  | [], _ => rfl
  | p :: m, h => by
    show (bif listEq _ q p.1 then (p.1, v) :: m else p :: mput T9 q v m).length = _
    rw [listEq_int]
    have : ¬ q = p.1 := fun e => h p List.mem_cons_self e.symm
    simp only [this, decide_false, cond_false, List.length_cons]
    rw [mput9_len q v m (fun x hx => h x (List.mem_cons_of_mem _ hx))]
theorem mput9_mem {β : Type} (q : List Int) (v : β) : ∀ (m : List (List Int × β)) (p : List Int × β), p ∈ mput T9 q v m → p.1 = q ∨ ∃ p' ∈ m, p'.1 = p.1
  | [], p, h => by
    have : p ∈ [(q, v)] := h
    simp at this; subst this; exact .inl rfl
  | x :: m, p, h => by
    have h : p ∈ (bif listEq _ q x.1 then (x.1, v) :: m else x :: mput T9 q v m) := h
    cases hc : listEq (keyEq (.int .i64)) q x.1 with
    | true =>
      rw [hc, cond_true] at h
      rcases List.mem_cons.1 h with rfl | h
      · exact .inr ⟨x, by simp, rfl⟩
      · exact .inr ⟨p, by simp [h], rfl⟩
    | false =>
      rw [hc, cond_false] at h
      rcases List.mem_cons.1 h with rfl | h
      · exact .inr ⟨p, by simp, rfl⟩
      · rcases mput9_mem q v m p h with h | ⟨p', h1, h2⟩
        · exact .inl h
        · exact .inr ⟨p', by simp [h1], h2⟩

def pad (q : List Int) : List Int := q ++ List.replicate (9 - q.length) 0
theorem pad_inj {q q' : List Int} (h : q.length = q'.length) (e : pad q = pad q') : q = q' := by
  unfold pad at e
  exact (List.append_inj e h).1
open Classical in
/-- the map tells the places of names -/
structure Rep9 (K : Nat) (m : List (List Int × Int)) (ns : LLI) : Prop where
  get : ∀ q : List Int, q.length = K → (mget T9 (0 : Int) (pad q) m).1 = if q ∈ ns then ((place q ns + 1 : Nat) : Int) else 0
  len : m.length = ns.length
  ks : ∀ p ∈ m, ∃ q ∈ ns, p.1 = pad q
  nl : ∀ q ∈ ns, q.length = K

theorem rep9_start (K : Nat) : Rep9 K [] [] := ⟨fun q _ => by simp [mget], rfl, by simp, by simp⟩
theorem rep9_put {K : Nat} {m : List (List Int × Int)} {ns : LLI} (h : Rep9 K m ns) {q : List Int} (hq : q.length = K) (hn : q ∉ ns) :
    Rep9 K (mput T9 (pad q) ((ns.length + 1 : Nat) : Int) m) (putIn q ns) := by
  have hp : putIn q ns = ns ++ [q] := by unfold putIn; rw [if_neg hn]
  refine ⟨?_, ?_, ?_, ?_⟩
  · intro x hx
    rw [mget9]
    by_cases e : x = q
    · subst e
      rw [if_pos rfl, if_pos (putIn_mem x ns), place_putIn, place_not hn]
    · rw [if_neg (fun h => e (pad_inj (hx.trans hq.symm) h)), h.get x hx]
      by_cases hm : x ∈ ns
      · rw [if_pos hm, if_pos (by rw [hp]; exact List.mem_append_left _ hm), hp, place_app hm]
      · rw [if_neg hm, if_neg (by rw [hp]; simp [hm, e])]
  · rw [mput9_len, h.len, hp]
    · simp
    · intro p hp' e
      obtain ⟨x, hx, hpx⟩ := h.ks p hp'
      rw [hpx] at e
      have := pad_inj ((h.nl x hx).trans hq.symm) e
      subst this; exact hn hx
  · intro p hp'
    rcases mput9_mem _ _ _ _ hp' with e | ⟨p', h1, h2⟩
    · exact ⟨q, putIn_mem q ns, e⟩
    · obtain ⟨x, hx, hpx⟩ := h.ks p' h1
      exact ⟨x, by rw [hp]; exact List.mem_append_left _ hx, by rw [← h2, hpx]⟩
  · intro x hx
    rcases mem_putIn hx with hx | rfl
    · exact h.nl x hx
    · exact hq

section
variable {L : Int} {N : LLI} {A : LB}
/-- classes: 0 exactly where no word is accepted -/
structure Czero (L : Int) (N : LLI) (A : LB) (c : List Int) : Prop where
  len : c.length = N.length
  zero : ∀ s : Nat, s < N.length → (cat c s = 0 ↔ ¬ live L N A (s : Int))

theorem cat_at {c : List Int} {s : Nat} (h : s < c.length) : c[s]? = some (cat c s) := by unfold cat; rw [List.getElem?_eq_getElem h]; rfl
theorem ixc {c : List Int} {s : Nat} (h : s < c.length) : ixAt c (s : Int) = some (cat c s) := by rw [ixAt_nat, cat_at h]

theorem key_l20 (h : W L N A) {S : Int} {k : Int} {c : List Int} (hc : c.length = N.length) {s : Nat} (hs : s < N.length) {r : List Int} (hr : N[s]? = some r) {m : List (List Int × Int)} {nx : List Int} {ns : LLI} (hm : Rep9 (L.toNat + 1) m ns) (hns : ns.length ≤ N.length) (hnx : nx.length = N.length) :
    ∀ (suf pre : List Int), pre ++ suf = r →
    ∃ m', Rep9 (L.toNat + 1) m' (putIn (keyC c s r) ns) ∧ automaton_classes.l20 k (s : Int) N (N.length : Nat) (s : Int) r (r.length : Nat) (pre.length : Nat) L S N A c m nx (pad (cat c s :: pre.map (cget c))) =
      automaton_classes.l15 k N (N.length : Nat) ((s + 1 : Nat) : Int) L S N A c m' (nx.set s ((place (keyC c s r) (putIn (keyC c s r) ns) + 1 : Nat) : Int))
  | [], pre, hp => by
    rw [List.append_nil] at hp; subst hp
    have hrow := h.row pre (List.mem_of_getElem? hr)
    have hn := h.n
    have h1 := h.l1; have h8 := h.l8
    have hkl : (keyC c s pre).length = L.toNat + 1 := by unfold keyC; simp; omega
    have hg := hm.get (keyC c s pre) hkl
    rw [automaton_classes.l20_eq, ifB_not _ _ (decide_eq_false (by omega))]
    show ∃ m', _ ∧ ifB ((mget T9 (0 : Int) (pad (keyC c s pre)) m).1 == 0) _ _ = _
    have hsx : s < nx.length := by omega
    by_cases hin : keyC c s pre ∈ ns
    · rw [if_pos hin] at hg
      refine ⟨m, ?_, ?_⟩
      · unfold putIn; rw [if_pos hin]; exact hm
      · rw [ifB_not _ _ (by rw [hg]; exact beq_eq_false_iff_ne.2 (by omega)), ixc hsx]
        simp only [bindD_some]
        rw [w64_succ (by omega), setRow_nat]
        show automaton_classes.l15 _ _ _ _ _ _ _ _ _ _ (nx.set s (mget T9 (0 : Int) (pad (keyC c s pre)) m).1) = _
        rw [hg, place_putIn]
    · rw [if_neg hin] at hg
      refine ⟨_, rep9_put hm hkl hin, ?_⟩
      rw [ifB_of _ _ (by rw [hg]; rfl), ixc hsx]
      simp only [bindD_some]
      have hmw : IntKind.i64.wrap (((m.length : Nat) : Int) + 1) = ((ns.length + 1 : Nat) : Int) := by rw [hm.len]; exact w64_succ (by omega)
      rw [w64_succ (by omega), setRow_nat]
      show automaton_classes.l15 _ _ _ _ _ _ _ _ _ (mput T9 (pad (keyC c s pre)) (IntKind.i64.wrap (((m.length : Nat) : Int) + 1)) m) (nx.set s (mget T9 (0 : Int) (pad (keyC c s pre)) (mput T9 (pad (keyC c s pre)) (IntKind.i64.wrap (((m.length : Nat) : Int) + 1)) m)).1) = _
      rw [hmw, mget9, if_pos rfl, place_putIn, place_not hin]
  | t :: suf, pre, hp => by
    have hrow := h.row r (List.mem_of_getElem? hr)
    have hn := h.n
    have h1 := h.l1; have h8 := h.l8
    have hrl : r.length = pre.length + suf.length + 1 := by rw [← hp]; simp; omega
    have ht : r[pre.length]? = some t := by rw [← hp]; simp
    have hw : IntKind.i64.wrap (((pre.length : Nat) : Int) + 1) = ((pre ++ [t]).length : Nat) := by rw [w64_succ (by omega)]; simp
    have hw2 : IntKind.i64.wrap (((pre.length : Nat) : Int) + 1) = ((pre.length + 1 : Nat) : Int) := w64_succ (by omega)
    rw [automaton_classes.l20_eq, ifB_of _ _ (decide_eq_true (by omega)), ixAt_nat, ht, bindD_some]
    obtain ⟨m', r1, r2⟩ := key_l20 h (S := S) (k := k) hc hs hr hm hns hnx suf (pre ++ [t]) (by rw [← hp]; simp)
    refine ⟨m', r1, ?_⟩
    rw [← r2]
    have hpl : (cat c s :: pre.map (cget c)).length = pre.length + 1 := by simp
    have hrep : List.replicate (9 - (pre.length + 1)) (0 : Int) = 0 :: List.replicate (9 - (pre.length + 2)) 0 := by
      rw [show 9 - (pre.length + 1) = (9 - (pre.length + 2)) + 1 by omega, List.replicate_succ]
    have hpad : pad (cat c s :: pre.map (cget c)) = (cat c s :: pre.map (cget c)) ++ 0 :: List.replicate (9 - (pre.length + 2)) 0 := by
      unfold pad; rw [hpl, hrep]
    by_cases h0 : t ≥ 0
    · have htn := (hrow.2 t (List.mem_of_getElem? ht)).2
      have htl : t.toNat < c.length := by omega
      rw [ifB_of _ _ (decide_eq_true h0), ixAt_int c h0, cat_at htl]
      simp only [bindD_some]
      have hix : ixAt (pad (cat c s :: pre.map (cget c))) ((pre.length + 1 : Nat) : Int) = some 0 := by
        rw [hpad, ixAt_nat, List.getElem?_append_right (by rw [hpl]; exact Nat.le_refl _), hpl]; simp
      rw [hw2, hix]
      simp only [bindD_some]
      have hset : setRow (pad (cat c s :: pre.map (cget c))) ((pre.length + 1 : Nat) : Int) (cat c t.toNat) = pad (cat c s :: (pre ++ [t]).map (cget c)) := by
        rw [setRow_nat, hpad]
        have : (cat c s :: (pre ++ [t]).map (cget c)) = (cat c s :: pre.map (cget c)) ++ [cget c t] := by simp
        rw [this]
        unfold pad
        rw [List.length_append, hpl]
        have hg : cget c t = cat c t.toNat := by unfold cget; rw [if_neg (by omega)]
        rw [hg, ← hpl, List.set_append_right _ _ (Nat.le_refl _)]
        simp
      rw [hset, show ((pre ++ [t]).length : Nat) = pre.length + 1 by simp]
    · rw [ifB_not _ _ (decide_eq_false h0), hw]
      have hset : pad (cat c s :: pre.map (cget c)) = pad (cat c s :: (pre ++ [t]).map (cget c)) := by
        rw [hpad]
        have : (cat c s :: (pre ++ [t]).map (cget c)) = (cat c s :: pre.map (cget c)) ++ [cget c t] := by simp
        rw [this]
        unfold pad
        rw [List.length_append, hpl]
        have hg : cget c t = 0 := by unfold cget; rw [if_pos (by omega)]
        rw [hg]; simp
      rw [hset]

/-- what comes behind a pass -/
noncomputable def finP (L S : Int) (N : LLI) (A : LB) (k : Int) (c v : List Int) : Option (List Int × Unit) :=
  ifB ((((namesC N c).length : Nat) : Int) == k) (some (v, ())) (automaton_classes.l12 (((namesC N c).length : Nat) : Int) L S N A v)
theorem pass_l15 (h : W L N A) {S k : Int} {c : List Int} (hc : Czero L N A c) : ∀ (suf pre : LLI) (ns : LLI) (m : List (List Int × Int)) (vals zs : List Int), pre ++ suf = N → namesF c suf pre.length ns = namesC N c → Rep9 (L.toNat + 1) m ns → ns.length ≤ pre.length →
    vals.length = pre.length → zs = List.replicate suf.length 0 →
    automaton_classes.l15 k N (N.length : Nat) (pre.length : Nat) L S N A c m (vals ++ zs) = finP L S N A k c (vals ++ nextF c (namesC N c) suf pre.length)
  | [], pre, ns, m, vals, zs, hp, hns, hm, hnl, hv, hz => by
    rw [List.append_nil] at hp; subst hp; subst hz
    have hns : ns = namesC pre c := hns
    rw [automaton_classes.l15_eq, ifB_not _ _ (decide_eq_false (by omega)), hm.len, hns]
    unfold finP
    rfl
  | r :: suf, pre, ns, m, vals, zs, hp, hns, hm, hnl, hv, hz => by
    subst hz
    have hn := h.n
    have hr : N[pre.length]? = some r := by rw [← hp]; simp
    have hs : pre.length < N.length := (List.getElem?_eq_some_iff.1 hr).1
    have hNl : N.length = pre.length + suf.length + 1 := by rw [← hp]; simp; omega
    have hw : IntKind.i64.wrap (((pre.length : Nat) : Int) + 1) = ((pre ++ [r]).length : Nat) := by rw [w64_succ (by omega)]; simp
    rw [automaton_classes.l15_eq, ifB_of _ _ (decide_eq_true (by omega)), ixAt_nat, hr, bindD_some, ixc (by rw [hc.len]; exact hs)]
    simp only [bindD_some]
    have hns' : namesF c suf (pre.length + 1) (if cat c pre.length = 0 then ns else putIn (keyC c pre.length r) ns) = namesC N c := hns
    by_cases h0 : cat c pre.length = 0
    · rw [if_pos h0] at hns'
      rw [ifB_of _ _ (by rw [h0]; rfl), hw]
      have hrec := pass_l15 h (S := S) (k := k) hc suf (pre ++ [r]) ns m (vals ++ [0]) (List.replicate suf.length 0) (by rw [← hp]; simp) (by simpa using hns') hm (by simp; omega) (by simp [hv]) rfl
      rw [show (vals ++ List.replicate (r :: suf).length (0 : Int)) = (vals ++ [0]) ++ List.replicate suf.length 0 by simp [List.replicate_succ], hrec]
      congr 1
      simp [nextF, h0]
    · rw [if_neg h0] at hns'
      rw [ifB_not _ _ (beq_eq_false_iff_ne.2 h0)]
      have hinit : List.set (List.replicate 9 (0 : Int)) 0 (cat c pre.length) = pad (cat c pre.length :: ([] : List Int).map (cget c)) := by
        unfold pad; simp [List.replicate_succ]
      rw [hinit]
      obtain ⟨m', r1, r2⟩ := key_l20 h (S := S) (k := k) hc.len hs hr hm (by omega) (nx := vals ++ List.replicate (r :: suf).length (0 : Int)) (by simp; omega) r [] rfl
      simp only [List.length_nil] at r2
      rw [show ((0 : Nat) : Int) = 0 from rfl] at r2
      rw [r2]
      have hset : (vals ++ List.replicate (r :: suf).length (0 : Int)).set pre.length ((place (keyC c pre.length r) (putIn (keyC c pre.length r) ns) + 1 : Nat) : Int) =
          (vals ++ [((place (keyC c pre.length r) (putIn (keyC c pre.length r) ns) + 1 : Nat) : Int)]) ++ List.replicate suf.length 0 := by
        rw [← hv, List.set_append_right _ _ (Nat.le_refl _)]
        simp [List.replicate_succ]
      rw [hset]
      obtain ⟨e, he⟩ := namesF_pre c suf (pre.length + 1) (putIn (keyC c pre.length r) ns)
      have hpl := putIn_len (keyC c pre.length r) ns
      have hrec := pass_l15 h (S := S) (k := k) hc suf (pre ++ [r]) (putIn (keyC c pre.length r) ns) m' (vals ++ [((place (keyC c pre.length r) (putIn (keyC c pre.length r) ns) + 1 : Nat) : Int)]) (List.replicate suf.length 0) (by rw [← hp]; simp) (by simpa using hns') r1 (by simp; omega) (by simp [hv]) rfl
      rw [show ((pre.length + 1 : Nat) : Int) = ((pre ++ [r]).length : Nat) by simp, hrec]
      congr 1
      have hpf : place (keyC c pre.length r) (namesC N c) = place (keyC c pre.length r) (putIn (keyC c pre.length r) ns) := by
        rw [← hns', he]; exact place_app (putIn_mem _ _)
      simp [nextF, h0, hpf]

theorem classes_l12 (h : W L N A) {S k : Int} {c : List Int} (hc : Czero L N A c) : automaton_classes.l12 k L S N A c = finP L S N A k c (nextC N c) := by
  have hn := h.n
  rw [automaton_classes.l12_eq, hc.len, mkLen_ok (by omega), bindD_some]
  have := pass_l15 h (S := S) (k := k) hc N [] [] [] [] _ rfl rfl (rep9_start _) (by simp) rfl rfl
  simp only [List.length_nil, List.nil_append] at this
  rw [show ((0 : Nat) : Int) = 0 from rfl] at this
  exact this

/-! ### the reference's -/
theorem requal_l4 : ∀ (f i : Nat) (a b : List Int), a.length = b.length → i + f = a.length → a.length < 4611686018427387904 → a.take i = b.take i → ancepsref06_Equal.l4 a b (i : Int) = some (decide (a = b), ())
  | 0, i, a, b, hl, hf, hm, ht => by
    rw [ancepsref06_Equal.l4_eq, ifB_not _ _ (decide_eq_false (by omega))]
    have : a = b := by rw [List.take_of_length_le (by omega), List.take_of_length_le (by omega)] at ht; exact ht
    simp [this]
  | f + 1, i, a, b, hl, hf, hm, ht => by
    have h1 : i < a.length := by omega
    have h2 : i < b.length := by omega
    rw [ancepsref06_Equal.l4_eq, ifB_of _ _ (decide_eq_true (by omega)), ixAt_lt h1, ixAt_lt h2]
    simp only [bindD_some]
    by_cases e : a[i] = b[i]
    · rw [ifB_not _ _ (by simp [e]), w64_succ (by omega)]
      refine requal_l4 f (i + 1) a b hl (by omega) hm ?_
      rw [List.take_succ_eq_append_getElem h1, List.take_succ_eq_append_getElem h2, ht, e]
    · rw [ifB_of _ _ (bne_iff_ne.2 e)]
      have : ¬ a = b := by rintro rfl; exact e rfl
      simp [this]
theorem requal_f (a b : List Int) (h : a.length < 4611686018427387904) : ancepsref06_Equal.f a b = some (decide (a = b), ()) := by
  rw [ancepsref06_Equal.f_eq]
  by_cases hl : a.length = b.length
  · rw [ifB_not _ _ (by simp [hl])]
    exact requal_l4 a.length 0 a b hl (by omega) h (by simp)
  · have : ¬ a = b := by rintro rfl; exact hl rfl
    rw [ifB_of _ _ (bne_iff_ne.2 (by omega))]; simp [this]
end
end Go.Proofs.C07.M
