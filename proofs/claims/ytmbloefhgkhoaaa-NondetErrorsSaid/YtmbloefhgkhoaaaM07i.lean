/- The classes of equal languages: both texts refine in the same way. -/
import Derived.Test.YtmbloefhgkhoaaaM07h
set_option linter.unusedVariables false
set_option linter.unusedSimpArgs false
namespace Go.Proofs.C07.M
open Go Go.Proofs.R
set_option linter.unusedVariables false
set_option linter.unusedSimpArgs false
set_option maxRecDepth 100000

def cat (c : List Int) (s : Nat) : Int := c[s]?.getD 0
def cget (c : List Int) (t : Int) : Int := if t < 0 then 0 else cat c t.toNat
def keyC (c : List Int) (s : Nat) (r : List Int) : List Int := cat c s :: r.map (cget c)
noncomputable def namesF (c : List Int) : LLI → Nat → LLI → LLI
  | [], _, ns => ns
  | r :: rs, s, ns => namesF c rs (s + 1) (if cat c s = 0 then ns else putIn (keyC c s r) ns)
noncomputable def namesC (N : LLI) (c : List Int) : LLI := namesF c N 0 []
noncomputable def nextF (c : List Int) (ns : LLI) : LLI → Nat → List Int
  | [], _ => []
  | r :: rs, s => (if cat c s = 0 then 0 else ((place (keyC c s r) ns + 1 : Nat) : Int)) :: nextF c ns rs (s + 1)
noncomputable def nextC (N : LLI) (c : List Int) : List Int := nextF c (namesC N c) N 0

theorem namesF_pre (c : List Int) : ∀ (rs : LLI) (s : Nat) (ns : LLI), ∃ e, namesF c rs s ns = ns ++ e
  | [], s, ns => ⟨[], by simp [namesF]⟩
  | r :: rs, s, ns => by
    obtain ⟨e, h⟩ := namesF_pre c rs (s + 1) (if cat c s = 0 then ns else putIn (keyC c s r) ns)
    show ∃ e, namesF c rs (s + 1) _ = _
    rw [h]
    split
    · exact ⟨e, rfl⟩
    · obtain ⟨e', h'⟩ := putIn_pre (keyC c s r) ns
      rw [h']; exact ⟨e' ++ e, by simp⟩
theorem putIn_len {α : Type} (d : α) (l : List α) : (putIn d l).length ≤ l.length + 1 := by unfold putIn; split <;> simp
theorem namesF_len (c : List Int) : ∀ (rs : LLI) (s : Nat) (ns : LLI), (namesF c rs s ns).length ≤ ns.length + rs.length
  | [], s, ns => by simp [namesF]
  | r :: rs, s, ns => by
    have h := namesF_len c rs (s + 1) (if cat c s = 0 then ns else putIn (keyC c s r) ns)
    show (namesF c rs (s + 1) _).length ≤ _
    have h2 := putIn_len (keyC c s r) ns
    simp only [List.length_cons]
    split at h
    · rename_i h0; rw [if_pos h0]; omega
    · rename_i h0; rw [if_neg h0]; omega
theorem names_le (N : LLI) (c : List Int) : (namesC N c).length ≤ N.length := by have := namesF_len c N 0 []; unfold namesC; simpa using this
theorem nextF_len (c : List Int) (ns : LLI) : ∀ (rs : LLI) (s : Nat), (nextF c ns rs s).length = rs.length
  | [], s => rfl
  | r :: rs, s => by simp [nextF, nextF_len c ns rs (s + 1)]
theorem next_len (N : LLI) (c : List Int) : (nextC N c).length = N.length := nextF_len _ _ _ _

/-! ### maps whose keys are rows of nine -/
abbrev T9 : Ty := .arr 9 (.int .i64)
def pad (q : List Int) : List Int := q ++ List.replicate (9 - q.length) 0
open Classical in
/-- the map tells the places of names -/
structure Rep9 (K : Nat) (m : List (List Int × Int)) (ns : LLI) : Prop where
  get : ∀ q : List Int, q.length = K → (mget T9 (0 : Int) (pad q) m).1 = if q ∈ ns then ((place q ns + 1 : Nat) : Int) else 0
  len : m.length = ns.length
  ks : ∀ p ∈ m, ∃ q ∈ ns, p.1 = pad q
  nl : ∀ q ∈ ns, q.length = K

section
variable {L : Int} {N : LLI} {A : LB}
/-- classes: 0 exactly where no word is accepted -/
structure Czero (L : Int) (N : LLI) (A : LB) (c : List Int) : Prop where
  len : c.length = N.length
  zero : ∀ s : Nat, s < N.length → (cat c s = 0 ↔ ¬ live L N A (s : Int))

theorem cat_at {c : List Int} {s : Nat} (h : s < c.length) : c[s]? = some (cat c s) := by unfold cat; rw [List.getElem?_eq_getElem h]; rfl
theorem ixc {c : List Int} {s : Nat} (h : s < c.length) : ixAt c (s : Int) = some (cat c s) := by rw [ixAt_nat, cat_at h]

noncomputable def finR (L S : Int) (N : LLI) (A lv : LB) (k : Int) (c v : List Int) : Option (List Int × Unit) :=
  ifB ((((namesC N c).length : Nat) : Int) == k) (some (v, ())) (ancepsref06_classes.l11 (((namesC N c).length : Nat) : Int) L S N A lv v)

/-! ### the reference's -/
theorem requal_l4 : ∀ (f i : Nat) (a b : List Int), a.length = b.length → i + f = a.length → a.length < 4611686018427387904 → a.take i = b.take i → ancepsref06_Equal.l4 a b (i : Int) = some (decide (a = b), ())
  | 0, i, a, b, hl, hf, hm, ht => by
    rw [ancepsref06_Equal.l4_eq, ifB_not _ _ (decide_eq_false (by omega))]
    have : a = b := by rw [List.take_of_length_le (by omega), List.take_of_length_le (by omega)] at ht; exact ht
    simp [this]
  | f + 1, i, a, b, hl, hf, hm, ht => by
    have h1 : i < a.length := by omega
    have h2 : i < b.length := by omega
    rw [ancepsref06_Equal.l4_eq, ifB_of _ _ (decide_eq_true (by omega)), ixAt_lt h1, ixAt_lt h2]
    simp only [bindD_some]
    by_cases e : a[i] = b[i]
    · rw [ifB_not _ _ (by simp [e]), w64_succ (by omega)]
      refine requal_l4 f (i + 1) a b hl (by omega) hm ?_
      rw [List.take_succ_eq_append_getElem h1, List.take_succ_eq_append_getElem h2, ht, e]
    · rw [ifB_of _ _ (bne_iff_ne.2 e)]
      have : ¬ a = b := by rintro rfl; exact e rfl
      simp [this]
theorem requal_f (a b : List Int) (h : a.length < 4611686018427387904) : ancepsref06_Equal.f a b = some (decide (a = b), ()) := by
  rw [ancepsref06_Equal.f_eq]
  by_cases hl : a.length = b.length
  · rw [ifB_not _ _ (by simp [hl])]
    exact requal_l4 a.length 0 a b hl (by omega) h (by simp)
  · have : ¬ a = b := by rintro rfl; exact hl rfl
    rw [ifB_of _ _ (bne_iff_ne.2 (by omega))]; simp [this]
open Classical in
theorem rindex_l2 (q : List Int) : ∀ (suf pre : LLI), (∀ x ∈ suf, x.length < 4611686018427387904) → (pre ++ suf).length < 4611686018427387904 →
    ancepsref06_index.l2 (pre ++ suf) q (pre.length : Nat) = some (if q ∈ suf then ((pre.length + place q suf : Nat) : Int) else -1, ())
  | [], pre, hx, h => by rw [ancepsref06_index.l2_eq, ifB_not _ _ (lt_end pre)]; simp
  | x :: suf, pre, hx, h => by
    rw [ancepsref06_index.l2_eq, ifB_of _ _ (lt_at pre x suf), ixAt_at, bindD_some, requal_f x q (hx x (by simp)), bindD_some]
    by_cases e : x = q
    · subst e
      rw [ifB_of _ _ (by simp)]
      simp [place]
    · rw [ifB_not _ _ (by simp [e]), w_at h]
      have := rindex_l2 q suf (pre ++ [x]) (fun y hy => hx y (by simp [hy])) (by rw [← app_at]; exact h)
      rw [← app_at] at this
      rw [this]
      have e' : ¬ q = x := fun h => e h.symm
      by_cases hm : q ∈ suf
      · simp [hm, place, e]; omega
      · simp [hm, e']
open Classical in
theorem rindex_f (q : List Int) (ns : LLI) (hx : ∀ x ∈ ns, x.length < 4611686018427387904) (h : ns.length < 4611686018427387904) :
    ancepsref06_index.f ns q = some (if q ∈ ns then ((place q ns : Nat) : Int) else -1, ()) := by
  have := rindex_l2 q ns [] hx h
  simp only [List.length_nil, List.nil_append, Nat.zero_add] at this
  rw [ancepsref06_index.f_eq]
  exact this

theorem rkey_l19 (h : W L N A) {S : Int} {k : Int} {lv : LB} {c : List Int} (hc : c.length = N.length) {s : Nat} (hs : s < N.length) {r : List Int} (hr : N[s]? = some r) {nx : List Int} {ns : LLI} (hns : ns.length ≤ N.length) (hnl : ∀ q ∈ ns, q.length = L.toNat + 1) (hnx : nx.length = N.length) :
    ∀ (suf pre : List Int), pre ++ suf = r →
    ancepsref06_classes.l19 k (s : Int) (pre.length : Nat) L S N A lv c nx ns (cat c s :: pre.map (cget c)) =
      ancepsref06_classes.l14 k ((s + 1 : Nat) : Int) L S N A lv c (nx.set s ((place (keyC c s r) (putIn (keyC c s r) ns) + 1 : Nat) : Int)) (putIn (keyC c s r) ns)
  | [], pre, hp => by
    rw [List.append_nil] at hp; subst hp
    have hrow := h.row pre (List.mem_of_getElem? hr)
    have hn := h.n
    have h1 := h.l1; have h8 := h.l8
    have hsx : s < nx.length := by omega
    rw [ancepsref06_classes.l19_eq, ifB_not _ _ (decide_eq_false (by omega))]
    show bindD (ancepsref06_index.f ns (keyC c s pre)) _ = _
    rw [rindex_f _ ns (fun x hx => by rw [hnl x hx]; omega) (by omega), bindD_some]
    by_cases hin : keyC c s pre ∈ ns
    · rw [if_pos hin, ifB_not _ _ (decide_eq_false (by simp only; omega)), ixc hsx]
      simp only [bindD_some]
      have := (place_mem hin).2
      rw [w64_succ (by omega), w64_succ (by omega), setRow_nat, place_putIn]
      unfold putIn; rw [if_pos hin]
    · rw [if_neg hin, ifB_of _ _ (by rfl)]
      have hp : putIn (keyC c s pre) ns = ns ++ [keyC c s pre] := by unfold putIn; rw [if_neg hin]
      show bindD (grow (ns.length + [keyC c s pre].length)) _ = _
      rw [grow_ok (by simp; omega), ixc hsx]
      simp only [bindD_some]
      have e1 : IntKind.i64.wrap ((((ns ++ [keyC c s pre]).length : Nat) : Int) - 1) = ((ns.length : Nat) : Int) := by
        rw [w64 (by simp; omega)]; simp
      show ancepsref06_classes.l14 _ _ _ _ _ _ _ _ (setRow nx (s : Int) (IntKind.i64.wrap (IntKind.i64.wrap ((((ns ++ [keyC c s pre]).length : Nat) : Int) - 1) + 1))) (ns ++ [keyC c s pre]) = _
      rw [e1, w64_succ (by omega), w64_succ (by omega), setRow_nat, place_putIn, place_not hin, hp]
  | t :: suf, pre, hp => by
    have hrow := h.row r (List.mem_of_getElem? hr)
    have hn := h.n
    have h1 := h.l1; have h8 := h.l8
    have hrl : r.length = pre.length + suf.length + 1 := by rw [← hp]; simp; omega
    have ht : r[pre.length]? = some t := by rw [← hp]; simp
    have hw : IntKind.i64.wrap (((pre.length : Nat) : Int) + 1) = ((pre ++ [t]).length : Nat) := by rw [w64_succ (by omega)]; simp
    have hNs : ixAt N (s : Int) = some r := by rw [ixAt_nat, hr]
    have hrt : ixAt r ((pre.length : Nat) : Int) = some t := by rw [ixAt_nat, ht]
    rw [ancepsref06_classes.l19_eq, ifB_of _ _ (decide_eq_true (by omega)), hNs]
    simp only [bindD_some]
    rw [hrt]
    simp only [bindD_some]
    have hrec := rkey_l19 h (S := S) (k := k) (lv := lv) hc hs hr hns hnl hnx suf (pre ++ [t]) (by rw [← hp]; simp)
    rw [← hrec]
    by_cases h0 : t ≥ 0
    · have htn := (hrow.2 t (List.mem_of_getElem? ht)).2
      have htl : t.toNat < c.length := by omega
      rw [ifB_of _ _ (decide_eq_true h0), ixAt_int c h0, cat_at htl]
      simp only [bindD_some]
      rw [grow_ok (by simp; omega), bindD_some, hw]
      have hg : cget c t = cat c t.toNat := by unfold cget; rw [if_neg (by omega)]
      simp [hg]
    · rw [ifB_not _ _ (decide_eq_false h0), grow_ok (by simp; omega), bindD_some, hw]
      have hg : cget c t = 0 := by unfold cget; rw [if_pos (by omega)]
      simp [hg]

theorem pass_l14 (h : W L N A) {S k : Int} {c : List Int} {lv : LB} (hlv : LvOk L N A lv) (hc : Czero L N A c) : ∀ (suf pre : LLI) (ns : LLI) (vals zs : List Int), pre ++ suf = N → namesF c suf pre.length ns = namesC N c → (∀ q ∈ ns, q.length = L.toNat + 1) → ns.length ≤ pre.length →
    vals.length = pre.length → zs = List.replicate suf.length 0 →
    ancepsref06_classes.l14 k (pre.length : Nat) L S N A lv c (vals ++ zs) ns = finR L S N A lv k c (vals ++ nextF c (namesC N c) suf pre.length)
  | [], pre, ns, vals, zs, hp, hns, hm, hnl, hv, hz => by
    rw [List.append_nil] at hp; subst hp; subst hz
    have hns : ns = namesC pre c := hns
    rw [ancepsref06_classes.l14_eq, hc.len, ifB_not _ _ (decide_eq_false (by omega)), hns]
    unfold finR
    rfl
  | r :: suf, pre, ns, vals, zs, hp, hns, hm, hnl, hv, hz => by
    subst hz
    have hn := h.n
    have hL := h.l1
    have hr : N[pre.length]? = some r := by rw [← hp]; simp
    have hs : pre.length < N.length := (List.getElem?_eq_some_iff.1 hr).1
    have hNl : N.length = pre.length + suf.length + 1 := by rw [← hp]; simp; omega
    have hw : IntKind.i64.wrap (((pre.length : Nat) : Int) + 1) = ((pre ++ [r]).length : Nat) := by rw [w64_succ (by omega)]; simp
    have hlvl : pre.length < lv.length := by rw [hlv.1]; exact hs
    rw [ancepsref06_classes.l14_eq, hc.len, ifB_of _ _ (decide_eq_true (by omega)), ixAt_lt hlvl]
    simp only [bindD_some]
    have hns' : namesF c suf (pre.length + 1) (if cat c pre.length = 0 then ns else putIn (keyC c pre.length r) ns) = namesC N c := hns
    have hz := hc.zero pre.length hs
    have hl := hlv.2 pre.length hs
    rw [List.getElem?_eq_getElem hlvl] at hl
    by_cases h0 : cat c pre.length = 0
    · rw [if_pos h0] at hns'
      have hnl' : lv[pre.length] = false := by
        cases hx : lv[pre.length] with
        | false => rfl
        | true => exact absurd (hl.1 (by rw [hx])) (hz.1 h0)
      rw [hnl', Bool.not_false, ifB_true, hw]
      have hrec := pass_l14 h (S := S) (k := k) hlv hc suf (pre ++ [r]) ns (vals ++ [0]) (List.replicate suf.length 0) (by rw [← hp]; simp) (by simpa using hns') hm (by simp; omega) (by simp [hv]) rfl
      rw [show (vals ++ List.replicate (r :: suf).length (0 : Int)) = (vals ++ [0]) ++ List.replicate suf.length 0 by simp [List.replicate_succ], hrec]
      congr 1
      simp [nextF, h0]
    · rw [if_neg h0] at hns'
      have hnl' : lv[pre.length] = true := by
        have := hl.2 (Classical.byContradiction fun hn => h0 (hz.2 hn))
        simpa using this
      rw [hnl', Bool.not_true, ifB_false, ixc (by rw [hc.len]; exact hs)]
      simp only [bindD_some]
      have r2 := rkey_l19 h (S := S) (k := k) (lv := lv) hc.len hs hr (ns := ns) (by omega) hm (nx := vals ++ List.replicate (r :: suf).length (0 : Int)) (by simp; omega) r [] rfl
      simp only [List.length_nil, List.map_nil] at r2
      rw [show ((0 : Nat) : Int) = 0 from rfl] at r2
      rw [r2]
      have hset : (vals ++ List.replicate (r :: suf).length (0 : Int)).set pre.length ((place (keyC c pre.length r) (putIn (keyC c pre.length r) ns) + 1 : Nat) : Int) =
          (vals ++ [((place (keyC c pre.length r) (putIn (keyC c pre.length r) ns) + 1 : Nat) : Int)]) ++ List.replicate suf.length 0 := by
        rw [← hv, List.set_append_right _ _ (Nat.le_refl _)]
        simp [List.replicate_succ]
      rw [hset]
      obtain ⟨e, he⟩ := namesF_pre c suf (pre.length + 1) (putIn (keyC c pre.length r) ns)
      have hpl := putIn_len (keyC c pre.length r) ns
      have hrow := h.row r (List.mem_of_getElem? hr)
      have hrec := pass_l14 h (S := S) (k := k) hlv hc suf (pre ++ [r]) (putIn (keyC c pre.length r) ns) (vals ++ [((place (keyC c pre.length r) (putIn (keyC c pre.length r) ns) + 1 : Nat) : Int)]) (List.replicate suf.length 0) (by rw [← hp]; simp) (by simpa using hns') (by
        intro q hq
        rcases mem_putIn hq with hq | rfl
        · exact hm q hq
        · unfold keyC; simp; omega) (by simp; omega) (by simp [hv]) rfl
      rw [show ((pre.length + 1 : Nat) : Int) = ((pre ++ [r]).length : Nat) by simp, hrec]
      congr 1
      have hpf : place (keyC c pre.length r) (namesC N c) = place (keyC c pre.length r) (putIn (keyC c pre.length r) ns) := by
        rw [← hns', he]; exact place_app (putIn_mem _ _)
      simp [nextF, h0, hpf]

theorem rclasses_l11 (h : W L N A) {S k : Int} {c : List Int} {lv : LB} (hlv : LvOk L N A lv) (hc : Czero L N A c) : ancepsref06_classes.l11 k L S N A lv c = finR L S N A lv k c (nextC N c) := by
  have hn := h.n
  rw [ancepsref06_classes.l11_eq, hc.len, mkLen_ok (by omega), bindD_some]
  have := pass_l14 h (S := S) (k := k) hlv hc N [] [] [] _ rfl rfl (by simp) (by simp) rfl rfl
  simp only [List.length_nil, List.nil_append] at this
  rw [show ((0 : Nat) : Int) = 0 from rfl] at this
  exact this
end
end Go.Proofs.C07.M
