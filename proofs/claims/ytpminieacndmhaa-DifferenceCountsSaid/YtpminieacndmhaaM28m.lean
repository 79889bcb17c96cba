/- Product: the law. -/
import Derived.Test.YtpminieacndmhaaM28l
set_option linter.unusedVariables false
set_option linter.unusedSimpArgs false
namespace Go.Proofs.C28.M
open Go Go.Proofs.R
set_option linter.unusedVariables false
set_option linter.unusedSimpArgs false
set_option maxRecDepth 100000

def kindB (k : Int) (x y : Bool) : Bool := bif k == 1 then x && y else bif k == 2 then x || y else x && !y
/-- the product's language -/
def plang (k L : Int) (la lb : Lang) : Lang := fun w => wdB L w && kindB k (la w) (lb w)

section
variable {L Sa Sb : Int} {Na Nb : LLI} {Aa Ab : LB}
def keysL (l : List Vis) : List Pr := l.map (·.1)
noncomputable def numP (l : List Vis) (q : Pr) : Int := ((place q (keysL l) : Nat) : Int)
noncomputable def rowP (Na Nb : LLI) (l : List Vis) (p : Pr) (c f : Nat) : List Int := (List.range' c f).map fun x => numP l (nx Na Nb p x)
noncomputable def prodN (L : Int) (Na Nb : LLI) (l : List Vis) : LLI := l.map fun v => rowP Na Nb l v.1 0 L.toNat
def prodA (k : Int) (Aa Ab : LB) (l : List Vis) : LB := l.map fun v => kindB k (acc Aa v.1.1) (acc Ab v.1.2)

structure Pairs (L : Int) (Na Nb : LLI) (l : List Vis) : Prop where
  nd : (keysL l).Nodup
  u : ∀ v ∈ l, inU Na Nb v.1
  d : ∀ v ∈ l, ∀ c : Nat, (c : Int) < L → nx Na Nb v.1 c ∈ keysL l
  n : l.length ≤ 160801
theorem walk_pairs (ha : V L Sa Na Aa) (hb : V L Sb Nb Ab) : Pairs L Na Nb (walkL L Sa Na Sb Nb) ∧ (walkL L Sa Na Sb Nb)[0]? = some ((Sa, Sb), (-1, 0)) := by
  obtain ⟨hI, hD⟩ := walkL_facts ha hb
  refine ⟨⟨hI.nd, hI.u, fun v hv c hc => ?_, inv_len ha hb hI⟩, hI.h0⟩
  obtain ⟨j, hj⟩ := List.mem_iff_getElem?.1 hv
  have := hD j v (List.getElem?_eq_some_iff.1 hj).1 hj c hc rfl
  exact has_iff.1 this

theorem prod_W (h1 : 1 ≤ L) (h8 : L ≤ 8) {l : List Vis} (hp : Pairs L Na Nb l) (k : Int) : W L (prodN L Na Nb l) (prodA k Aa Ab l) := by
  have hn := hp.n
  refine ⟨h1, h8, by simp [prodN]; omega, by simp [prodN, prodA], ?_⟩
  intro r hr
  simp only [prodN, List.mem_map] at hr
  obtain ⟨v, hv, rfl⟩ := hr
  refine ⟨by simp [rowP]; omega, fun t ht => ?_⟩
  simp only [rowP, List.mem_map, List.mem_range'_1] at ht
  obtain ⟨c, hc, rfl⟩ := ht
  have := (place_mem (hp.d v hv c (by omega))).2
  unfold numP
  simp only [prodN, List.length_map]
  simp only [keysL, List.length_map] at this
  unfold keysL
  omega

theorem prod_run (h1 : 1 ≤ L) {l : List Vis} (hp : Pairs L Na Nb l) (k : Int) : ∀ (w : List Nat) (j : Nat) (v : Vis), l[j]? = some v → Wd L w →
    acc (prodA k Aa Ab l) (run (prodN L Na Nb l) (j : Int) w) = kindB k (acc Aa (run Na v.1.1 w)) (acc Ab (run Nb v.1.2 w))
  | [], j, v, hj, hw => by
    show acc _ (j : Int) = _
    unfold acc
    rw [if_pos (by omega), Int.toNat_natCast]
    simp only [prodA, List.getElem?_map, hj, Option.map_some, Option.getD_some]
    rfl
  | c :: w, j, v, hj, hw => by
    have hc : (c : Int) < L := hw c List.mem_cons_self
    have hm := place_mem (hp.d v (List.mem_of_getElem? hj) c hc)
    have hst : stp (prodN L Na Nb l) (j : Int) c = numP l (nx Na Nb v.1 c) := by
      refine stp_nat (r := rowP Na Nb l v.1 0 L.toNat) ?_ ?_
      · simp [prodN, hj]
      · unfold rowP
        rw [List.getElem?_map, List.getElem?_range' (by omega)]
        simp
    have hk : ∃ v', l[place (nx Na Nb v.1 c) (keysL l)]? = some v' ∧ v'.1 = nx Na Nb v.1 c := by
      have h2 := hm.1
      unfold keysL at h2
      rw [List.getElem?_map] at h2
      cases hx : l[place (nx Na Nb v.1 c) (keysL l)]? with
      | none => unfold keysL at hx; rw [hx] at h2; cases h2
      | some v' => unfold keysL at hx; rw [hx] at h2; exact ⟨v', rfl, by simpa using h2⟩
    obtain ⟨v', e1, e2⟩ := hk
    show acc _ (run _ (stp (prodN L Na Nb l) (j : Int) c) w) = _
    rw [hst]
    have := prod_run h1 hp k w _ v' e1 (fun x hx => hw x (List.mem_cons_of_mem _ hx))
    rw [e2] at this
    exact this
theorem prod_lang (h1 : 1 ≤ L) {l : List Vis} (hp : Pairs L Na Nb l) (k : Int) {p : Pr} {x : Pr} (h0 : l[0]? = some (p, x)) :
    lang L (prodN L Na Nb l) (prodA k Aa Ab l) 0 = plang k L (lang L Na Aa p.1) (lang L Nb Ab p.2) := by
  funext w
  unfold lang plang
  cases hw : wdB L w with
  | false => rfl
  | true =>
    have := prod_run (Aa := Aa) (Ab := Ab) h1 hp k w 0 _ h0 (wdB_iff.1 hw)
    rw [show ((0 : Nat) : Int) = 0 from rfl] at this
    simp only [hw, Bool.true_and]
    exact this

/-! ### numbers of pairs -/
def Nums (m : List (Pr × Int)) (ks : List Pr) : Prop := ∀ q ∈ ks, (mget TP (0 : Int) q m).1 = ((place q ks : Nat) : Int)
theorem Nums.put {m : List (Pr × Int)} {ks : List Pr} (h : Nums m ks) {q : Pr} (hq : q ∉ ks) : Nums (mput TP q ((ks.length : Nat) : Int) m) (ks ++ [q]) := by
  intro p hp
  rw [mget_mput]
  by_cases e : p = q
  · subst e
    have hpi : putIn p ks = ks ++ [p] := by unfold putIn; rw [if_neg hq]
    rw [if_pos rfl, ← hpi, place_putIn, place_not hq]
  · rw [if_neg e]
    have hm : p ∈ ks := by
      rcases List.mem_append.1 hp with hp | hp
      · exact hp
      · simp at hp; exact absurd hp e
    rw [h p hm, place_app hm]

theorem num_l9 (k : Int) (N1 N2 : LLI) (A1 A2 : LB) (L1 S1 L2 S2 : Int) (oN : LLI) (oA : LB) : ∀ (suf pre : List Vis) (m : List (Pr × Int)), (pre ++ suf).length ≤ 160801 → (keysL (pre ++ suf)).Nodup → Nums m (keysL pre) →
    ∃ m', Nums m' (keysL (pre ++ suf)) ∧ automaton_Product.l9 k ((pre ++ suf).length : Nat) (pre.length : Nat) L1 S1 N1 A1 L2 S2 N2 A2 0 0 (pre ++ suf) m oN oA =
      automaton_Product.l15 k ((pre ++ suf).length : Nat) 0 L1 S1 N1 A1 L2 S2 N2 A2 0 0 m' L1 0 (pre ++ suf) oN oA [] []
  | [], pre, m, hl, hn, hm => by
    refine ⟨m, by rw [List.append_nil]; exact hm, ?_⟩
    rw [automaton_Product.l9_eq, ifB_not _ _ (decide_eq_false (by simp))]
  | v :: suf, pre, m, hl, hn, hm => by
    have hq : v.1 ∉ keysL pre := by
      unfold keysL at hn ⊢
      rw [List.map_append, List.nodup_append] at hn
      intro hmem
      exact hn.2.2 _ hmem _ (by simp) rfl
    have h2 := hm.put hq
    have hkl : (keysL pre).length = pre.length := by simp [keysL]
    rw [hkl] at h2
    obtain ⟨m', r1, r2⟩ := num_l9 k N1 N2 A1 A2 L1 S1 L2 S2 oN oA suf (pre ++ [v]) _ (by rw [← app_at]; exact hl) (by rw [← app_at]; exact hn) (by unfold keysL at h2 ⊢; rw [List.map_append]; exact h2)
    rw [← app_at] at r1 r2
    refine ⟨m', r1, ?_⟩
    rw [automaton_Product.l9_eq, ifB_of _ _ (lt_at pre v suf), ixAt_at]
    simp only [bindD_some]
    rw [w_at (p := pre) (x := v) (s := suf) (by omega)]
    exact r2
theorem rowP_succ (l : List Vis) (p : Pr) (c f : Nat) : rowP Na Nb l p c (f + 1) = numP l (nx Na Nb p c) :: rowP Na Nb l p (c + 1) f := by
  unfold rowP; rw [List.range'_succ, List.map_cons]

theorem prod_l19 (ha : V L Sa Na Aa) (hb : V L Sb Nb Ab) {k : Int} (hk : k = 1 ∨ k = 2 ∨ k = 3) {l : List Vis} (hp : Pairs L Na Nb l) {m : List (Pr × Int)} (hm : Nums m (keysL l)) {i : Nat} (hi : i < 4611686018427387904) {v : Vis} (hv : v ∈ l) {oN : LLI} {oA : LB} (hoN : oN.length ≤ 160801) (hoA : oA.length ≤ 160801) :
    ∀ (f c : Nat) (row : List Int), c + f = L.toNat → row.length = c →
    automaton_Product.l19 k (l.length : Nat) (i : Int) L (c : Int) L Sa Na Aa L Sb Nb Ab 0 0 m L 0 v.1.1 v.1.2 v.2.1 v.2.2 (row ++ List.replicate f 0) l [] [] oN oA =
      automaton_Product.l15 k (l.length : Nat) ((i + 1 : Nat) : Int) L Sa Na Aa L Sb Nb Ab 0 0 m L 0 l [] [] (oN ++ [row ++ rowP Na Nb l v.1 c f]) (oA ++ [kindB k (acc Aa v.1.1) (acc Ab v.1.2)])
  | 0, c, row, hc, hr => by
    have hU := hp.u v hv
    have h1 := ha.l1
    rw [automaton_Product.l19_eq, ifB_not _ _ (decide_eq_false (by omega)), ends_f (by rw [ha.a]; exact hU.1.2), bindD_some, ends_f (by rw [hb.a]; exact hU.2.2), bindD_some]
    have hg1 : ∀ x : List Int, grow (oN.length + (x :: ([] : LLI)).length) = some () := fun x => grow_ok (by simp; omega)
    have hg2 : ∀ x : Bool, grow (oA.length + (x :: ([] : LB)).length) = some () := fun x => grow_ok (by simp; omega)
    simp only [hg1, hg2, bindD_some]
    rw [w64_succ (by omega)]
    have hrow : row ++ List.replicate 0 (0 : Int) = row ++ rowP Na Nb l v.1 c 0 := by simp [rowP]
    rw [hrow]
    generalize acc Aa v.1.1 = x
    generalize acc Ab v.1.2 = y
    rcases hk with rfl | rfl | rfl <;> cases x <;> cases y <;> rfl
  | f + 1, c, row, hc, hr => by
    have hU := hp.u v hv
    have h1 := ha.l1
    have h8 := ha.l8
    have hcL : (c : Int) < L := by omega
    have hix : ∃ z, ixAt (row ++ List.replicate (f + 1) (0 : Int)) (c : Int) = some z := ⟨_, ixAt_lt (by simp; omega)⟩
    obtain ⟨z, hz⟩ := hix
    rw [automaton_Product.l19_eq, ifB_of _ _ (decide_eq_true hcL), anext_f ha hU.1 hcL, bindD_some, anext_f hb hU.2 hcL, bindD_some, hz]
    simp only [bindD_some]
    have hnx : (stp Na v.1.1 c, stp Nb v.1.2 c) = nx Na Nb v.1 c := rfl
    rw [hnx, hm _ (hp.d v hv c hcL), w64_succ (by omega)]
    have hset : setRow (row ++ List.replicate (f + 1) (0 : Int)) (c : Int) (((place (nx Na Nb v.1 c) (keysL l) : Nat) : Int)) = (row ++ [numP l (nx Na Nb v.1 c)]) ++ List.replicate f 0 := by
      rw [setRow_nat, List.set_append_right _ _ (by omega), hr, Nat.sub_self, List.replicate_succ, List.set_cons_zero]; simp [numP]
    rw [hset, prod_l19 ha hb hk hp hm hi hv hoN hoA f (c + 1) _ (by omega) (by simp [hr]), rowP_succ]
    simp

theorem prod_l15 (ha : V L Sa Na Aa) (hb : V L Sb Nb Ab) {k : Int} (hk : k = 1 ∨ k = 2 ∨ k = 3) {m : List (Pr × Int)} {l : List Vis} (hp : Pairs L Na Nb l) (hm : Nums m (keysL l)) : ∀ (suf pre : List Vis), pre ++ suf = l →
    automaton_Product.l15 k (l.length : Nat) (pre.length : Nat) L Sa Na Aa L Sb Nb Ab 0 0 m L 0 l [] [] (pre.map fun v => rowP Na Nb l v.1 0 L.toNat) (prodA k Aa Ab pre) =
      automaton_Product.l15 k (l.length : Nat) (l.length : Nat) L Sa Na Aa L Sb Nb Ab 0 0 m L 0 l [] [] (prodN L Na Nb l) (prodA k Aa Ab l)
  | [], pre, hpl => by rw [List.append_nil] at hpl; subst hpl; rfl
  | v :: suf, pre, hpl => by
    have hn := hp.n
    have h1 := ha.l1
    have h8 := ha.l8
    have hll : pre.length < l.length := by rw [← hpl]; simp
    have hv : l[pre.length]? = some v := by rw [← hpl]; simp
    have hLn : mkLen L L = some L.toNat := by
      have := mkLen_ok (n := L.toNat) (by omega)
      rw [Int.toNat_of_nonneg (by omega)] at this; exact this
    have hrec := prod_l15 ha hb hk hp hm suf (pre ++ [v]) (by rw [← hpl]; simp)
    rw [← hrec]
    conv => lhs; rw [automaton_Product.l15_eq]
    rw [ifB_of _ _ (decide_eq_true (by omega)), ixAt_nat, hv]
    simp only [bindD_some]
    rw [hLn]
    simp only [bindD_some]
    have h19 := prod_l19 ha hb hk hp hm (i := pre.length) (by omega) (List.mem_of_getElem? hv) (oN := pre.map fun v => rowP Na Nb l v.1 0 L.toNat) (oA := prodA k Aa Ab pre) (by simp; omega) (by simp [prodA]; omega) L.toNat 0 [] (by omega) rfl
    rw [List.nil_append, show ((0 : Nat) : Int) = 0 from rfl] at h19
    have hlr : (((List.replicate L.toNat (0 : Int)).length : Nat) : Int) = L := by simp; omega
    rw [hlr, h19]
    simp [prodA]

/-- what a product answers -/
noncomputable def prodR (L k : Int) (la lb : Lang) : Int × Int × LLI × LB × Int × Unit :=
  if (canN L (plang k L la lb)).length > 400 then (0, (0, ([], ([], (3, ()))))) else (L, (canS (plang k L la lb), (canN L (plang k L la lb), (canA L (plang k L la lb), (0, ())))))
theorem plin (ha : V L Sa Na Aa) (hb : V L Sb Nb Ab) (k : Int) : ∃ N A, W L N A ∧ Lin L N A (plang k L (lang L Na Aa Sa) (lang L Nb Ab Sb)) := by
  obtain ⟨hp, h0⟩ := walk_pairs ha hb
  refine ⟨_, _, prod_W ha.l1 ha.l8 hp k (Aa := Aa) (Ab := Ab), ?_⟩
  rw [← prod_lang ha.l1 hp k h0]
  refine lin_lang ⟨by omega, ?_⟩
  have := (List.getElem?_eq_some_iff.1 h0).1
  simp [prodN]; omega

theorem product_f (ha : V L Sa Na Aa) (hb : V L Sb Nb Ab) (hok : errP L Sa Na Aa L Sb Nb Ab = true) {k : Int} (hk : k = 1 ∨ k = 2 ∨ k = 3) :
    automaton_Product.f L Sa Na Aa L Sb Nb Ab k = some (prodR L k (lang L Na Aa Sa) (lang L Nb Ab Sb)) := by
  obtain ⟨hp, h0⟩ := walk_pairs ha hb
  have hl0 := (List.getElem?_eq_some_iff.1 h0).1
  obtain ⟨m', h1, h2⟩ := num_l9 k Na Nb Aa Ab L Sa L Sb [] [] (walkL L Sa Na Sb Nb) [] [] (by simpa using hp.n) (by simpa using hp.nd) (by intro q hq; simp [keysL] at hq)
  simp only [List.nil_append, List.length_nil] at h1 h2
  rw [show ((0 : Nat) : Int) = 0 from rfl] at h2
  have h15 := prod_l15 ha hb hk hp h1 (walkL L Sa Na Sb Nb) [] rfl
  simp only [List.length_nil, List.map_nil] at h15
  rw [show ((0 : Nat) : Int) = 0 from rfl, show prodA k Aa Ab [] = [] from rfl] at h15
  have hmin := minimal_f (prod_W (Aa := Aa) (Ab := Ab) ha.l1 ha.l8 hp k) (S := 0) ⟨by omega, by simp [prodN]; omega⟩
  rw [prod_lang ha.l1 hp k h0] at hmin
  have hfin : automaton_Product.l9 k ((walkL L Sa Na Sb Nb).length : Nat) 0 L Sa Na Aa L Sb Nb Ab 0 0 (walkL L Sa Na Sb Nb) [] [] [] = some (prodR L k (lang L Na Aa Sa) (lang L Nb Ab Sb)) := by
    rw [h2, h15, automaton_Product.l15_eq, ifB_not _ _ (decide_eq_false (by omega)), hmin, bindD_some]
    unfold prodR minR
    simp only
    by_cases hc : (canN L (plang k L (lang L Na Aa Sa) (lang L Nb Ab Sb))).length > 400
    · rw [ifB_of _ _ (decide_eq_true (by omega)), if_pos hc]
    · rw [ifB_not _ _ (decide_eq_false (by omega)), if_neg hc]
  rw [automaton_Product.f_eq, both_f, hok, bindD_some, ifB_not _ _ (by rfl), visits_f ha hb]
  simp only [bindD_some]
  rw [hfin]
  rcases hk with rfl | rfl | rfl <;> rfl

theorem goodW_wd {w : List Int} (h : goodW L w = true) : wdB L (w.map Int.toNat) = true := by
  unfold goodW at h
  unfold wdB
  simp only [List.all_eq_true, Bool.and_eq_true, decide_eq_true_eq, List.all_map] at h ⊢
  intro c hc
  have := h c hc
  simp; omega

end
end Go.Proofs.C28.M
