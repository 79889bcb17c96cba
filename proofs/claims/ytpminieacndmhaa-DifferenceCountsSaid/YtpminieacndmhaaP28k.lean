/- Common: the law. -/
import Derived.Test.YtpminieacndmhaaP28h
import Derived.Test.YtpminieacndmhaaM28m
set_option linter.unusedVariables false
set_option linter.unusedSimpArgs false
namespace Go.Proofs.C28
open Go Go.Proofs.R
set_option linter.unusedVariables false
set_option linter.unusedSimpArgs false
set_option maxRecDepth 100000

theorem V.m {L S : Int} {N : LLI} {A : LB} (h : V L S N A) : M.V L S N A := ⟨h.l1, h.l8, h.n, h.a, h.s, h.row⟩
theorem stp_m (N : LLI) (s : Int) (c : Nat) : stp N s c = M.stp N s c := rfl
theorem acc_m (A : LB) (s : Int) : acc A s = M.acc A s := rfl

section
variable {L Sa Sb : Int} {Na Nb : LLI} {Aa Ab : LB}
open Classical in
noncomputable def idx (R : List Pr) (q : Pr) : Int := if q ∈ R then ((M.place q R : Nat) : Int) else -1
noncomputable def cmN (L : Int) (Na Nb : LLI) (R : List Pr) : LLI := R.map fun p => (List.range' 0 L.toNat).map fun c => idx R (nx Na Nb p c)
def cmA (Aa Ab : LB) (R : List Pr) : LB := R.map fun p => acc Aa p.1 && acc Ab p.2

theorem idx_f {R : List Pr} (hn : R.Nodup) (hl : R.length < 4611686018427387904) (q : Pr) : ancepsref28_index.f R q.1 q.2 = some (idx R q, ()) := by
  obtain ⟨k, h1, h2⟩ := index_f R q hl
  rw [h1]
  unfold idx
  rcases h2 with ⟨h2, h3⟩ | ⟨j, h2, h3⟩
  · rw [if_neg h3, h2]
  · rw [if_pos (List.mem_of_getElem? h3), M.place_at hn h3, h2]
theorem idx_rng {R : List Pr} (q : Pr) : -1 ≤ idx R q ∧ idx R q < R.length := by
  unfold idx
  split
  · rename_i h; have := (M.place_mem h).2; omega
  · omega

theorem com_W (h1 : 1 ≤ L) (h8 : L ≤ 8) {R : List Pr} (hR : Good2 L Na Nb R) : M.W L (cmN L Na Nb R) (cmA Aa Ab R) := by
  have hn := hR.len
  refine ⟨h1, h8, by simp [cmN]; omega, by simp [cmN, cmA], ?_⟩
  intro r hr
  simp only [cmN, List.mem_map] at hr
  obtain ⟨p, hp, rfl⟩ := hr
  refine ⟨by simp; omega, fun t ht => ?_⟩
  simp only [List.mem_map] at ht
  obtain ⟨c, hc, rfl⟩ := ht
  have := idx_rng (R := R) (nx Na Nb p c)
  simp only [cmN, List.length_map]
  exact this

theorem com_run (h1 : 1 ≤ L) {R : List Pr} (hR : Good2 L Na Nb R) : ∀ (w : List Nat) (j : Nat) (p : Pr), R[j]? = some p → M.Wd L w →
    M.acc (cmA Aa Ab R) (M.run (cmN L Na Nb R) (j : Int) w) = (M.acc Aa (M.run Na p.1 w) && M.acc Ab (M.run Nb p.2 w))
  | [], j, p, hj, hw => by
    show M.acc _ (j : Int) = (M.acc Aa p.1 && M.acc Ab p.2)
    unfold M.acc
    rw [if_pos (by omega), Int.toNat_natCast]
    simp only [cmA, List.getElem?_map, hj, Option.map_some, Option.getD_some]
    rfl
  | c :: w, j, p, hj, hw => by
    have hc : (c : Int) < L := hw c List.mem_cons_self
    have hst : M.stp (cmN L Na Nb R) (j : Int) c = idx R (nx Na Nb p c) := by
      refine M.stp_nat (r := (List.range' 0 L.toNat).map fun c => idx R (nx Na Nb p c)) ?_ ?_
      · simp [cmN, hj]
      · rw [List.getElem?_map, List.getElem?_range' (by omega)]
        simp
    show M.acc _ (M.run _ (M.stp (cmN L Na Nb R) (j : Int) c) w) = (M.acc Aa (M.run Na (nx Na Nb p c).1 w) && M.acc Ab (M.run Nb (nx Na Nb p c).2 w))
    rw [hst]
    unfold idx
    by_cases hm : nx Na Nb p c ∈ R
    · rw [if_pos hm]
      exact com_run h1 hR w _ _ (M.place_mem hm).1 (fun x hx => hw x (List.mem_cons_of_mem _ hx))
    · rw [if_neg hm, M.acc_neg (M.run_neg w (by omega))]
      have he : eith (nx Na Nb p c) = false := by
        cases hx : eith (nx Na Nb p c) with
        | false => rfl
        | true => exact absurd (hR.cl p (List.mem_of_getElem? hj) c hc hx) hm
      unfold eith at he
      simp only [Bool.or_eq_false_iff, decide_eq_false_iff_not] at he
      rw [M.acc_neg (M.run_neg w (by omega : (nx Na Nb p c).1 < 0))]; rfl
theorem com_lang (h1 : 1 ≤ L) {R : List Pr} (hR : Good2 L Na Nb R) {p : Pr} (h0 : R[0]? = some p) :
    M.lang L (cmN L Na Nb R) (cmA Aa Ab R) 0 = M.plang 1 L (M.lang L Na Aa p.1) (M.lang L Nb Ab p.2) := by
  funext w
  unfold M.lang M.plang
  cases hw : M.wdB L w with
  | false => rfl
  | true =>
    have := com_run (Aa := Aa) (Ab := Ab) h1 hR w 0 p h0 (M.wdB_iff.1 hw)
    rw [show ((0 : Nat) : Int) = 0 from rfl] at this
    simp only [hw, Bool.true_and]
    exact this

theorem com_l11 (ha : V L Sa Na Aa) (hb : V L Sb Nb Ab) {R : List Pr} (hR : Good2 L Na Nb R) {i : Nat} {p : Pr} (hi : R[i]? = some p) {S : Int} {oN : LLI} {oA : LB} (hoN : oN.length ≤ 160801) (hoA : oA.length ≤ 160801) :
    ∀ (f c : Nat) (row : List Int), c + f = L.toNat → row.length = c →
    ancepsref28_Common.l11 R (i : Int) (c : Int) L Sa Na Aa L Sb Nb Ab 0 0 L S row [] [] oN oA =
      ancepsref28_Common.l7 R ((i + 1 : Nat) : Int) L Sa Na Aa L Sb Nb Ab 0 0 L 0 [] [] (oN ++ [row ++ (List.range' c f).map fun c => idx R (nx Na Nb p c)]) (oA ++ [acc Aa p.1 && acc Ab p.2])
  | 0, c, row, hc, hr => by
    have hU := hR.u p (List.mem_of_getElem? hi)
    have h1 := ha.l1
    have hlen := hR.len
    have hil := (List.getElem?_eq_some_iff.1 hi).1
    have hA := ha.a; have hB := hb.a
    have hix : ixAt R (i : Int) = some p := by rw [ixAt_nat, hi]
    have hg1 : ∀ x : List Int, grow (oN.length + (x :: ([] : LLI)).length) = some () := fun x => grow_ok (by simp; omega)
    have hg2 : ∀ x : Bool, grow (oA.length + (x :: ([] : LB)).length) = some () := fun x => grow_ok (by simp; omega)
    rw [ancepsref28_Common.l11_eq, ifB_not _ _ (decide_eq_false (by omega)), hg1, bindD_some, hix]
    simp only [bindD_some]
    rw [racc_f (by have := hU.1.2; omega), racc_f (by have := hU.2.2; omega)]
    simp only [bindD_some, hg2]
    rw [w64_succ (by omega)]
    cases acc Aa p.1 <;> cases acc Ab p.2 <;> simp [ifB]
  | f + 1, c, row, hc, hr => by
    have hU := hR.u p (List.mem_of_getElem? hi)
    have h1 := ha.l1
    have h8 := ha.l8
    have hlen := hR.len
    have hcL : (c : Int) < L := by omega
    have hix : ixAt R (i : Int) = some p := by rw [ixAt_nat, hi]
    have hg : ∀ x : Int, grow (row.length + (x :: ([] : List Int)).length) = some () := fun x => grow_ok (by simp; omega)
    have hid : ancepsref28_index.f R (stp Na p.1 c) (stp Nb p.2 c) = some (idx R (nx Na Nb p c), ()) := idx_f hR.nd (by omega) (nx Na Nb p c)
    rw [ancepsref28_Common.l11_eq, ifB_of _ _ (decide_eq_true hcL), hix]
    simp only [bindD_some]
    rw [next_f ha hU.1 hcL]
    simp only [bindD_some]
    rw [next_f hb hU.2 hcL]
    simp only [bindD_some]
    rw [hid]
    simp only [bindD_some, hg]
    rw [w64_succ (by omega), com_l11 ha hb hR hi hoN hoA f (c + 1) _ (by omega) (by simp [hr]), List.range'_succ, List.map_cons]
    simp

theorem com_l7 (ha : V L Sa Na Aa) (hb : V L Sb Nb Ab) {R : List Pr} (hR : Good2 L Na Nb R) : ∀ (suf pre : List Pr) (S : Int), pre ++ suf = R →
    ancepsref28_Common.l7 R (pre.length : Nat) L Sa Na Aa L Sb Nb Ab 0 0 L S [] [] (pre.map fun p => (List.range' 0 L.toNat).map fun c => idx R (nx Na Nb p c)) (cmA Aa Ab pre) =
      ancepsref28_Common.l7 R (R.length : Nat) L Sa Na Aa L Sb Nb Ab 0 0 L (bif suf.isEmpty then S else 0) [] [] (cmN L Na Nb R) (cmA Aa Ab R)
  | [], pre, S, hp => by rw [List.append_nil] at hp; subst hp; rfl
  | p :: suf, pre, S, hp => by
    have hlen := hR.len
    have hi : R[pre.length]? = some p := by rw [← hp]; simp
    have hll : pre.length < R.length := (List.getElem?_eq_some_iff.1 hi).1
    have h1 := ha.l1
    have hrec := com_l7 ha hb hR suf (pre ++ [p]) 0 (by rw [← hp]; simp)
    have hs : (bif suf.isEmpty then (0 : Int) else 0) = 0 := by cases suf.isEmpty <;> rfl
    rw [hs] at hrec
    conv => lhs; rw [ancepsref28_Common.l7_eq]
    rw [ifB_of _ _ (decide_eq_true (by omega))]
    have h11 := com_l11 ha hb hR hi (S := S) (oN := pre.map fun p => (List.range' 0 L.toNat).map fun c => idx R (nx Na Nb p c)) (oA := cmA Aa Ab pre) (by simp; omega) (by simp [cmA]; omega) L.toNat 0 [] (by omega) rfl
    rw [show ((0 : Nat) : Int) = 0 from rfl] at h11
    rw [h11]
    have hse : (bif (p :: suf).isEmpty then S else 0) = 0 := rfl
    rw [hse, ← hrec]
    simp [cmA]

theorem rcommon_f (ha : V L Sa Na Aa) (hb : V L Sb Nb Ab) (hok : errP L Sa Na Aa L Sb Nb Ab = true) : ancepsref28_Common.f L Sa Na Aa L Sb Nb Ab = some (M.prodR L 1 (M.lang L Na Aa Sa) (M.lang L Nb Ab Sb)) := by
  obtain ⟨ws, _, hr⟩ := reach_f ha hb
  obtain ⟨hG, hg1, hg2⟩ := pairs_good ha hb
  have h7 := com_l7 ha hb hG ((sideE L Sa Na Sb Nb).map (·.1)) [] (-1) rfl
  simp only [List.length_nil, List.map_nil] at h7
  rw [show ((0 : Nat) : Int) = 0 from rfl, show cmA Aa Ab [] = [] from rfl] at h7
  rw [ancepsref28_Common.f_eq, rvalid_f, hok, bindD_some, ifB_not _ _ (by rfl), hr, bindD_some]
  simp only
  rw [h7, ancepsref28_Common.l7_eq, ifB_not _ _ (decide_eq_false (by omega)), ancepsref06_Small.f_eq]
  have hW := com_W (Aa := Aa) (Ab := Ab) ha.l1 ha.l8 hG
  have hmin : ancepsref06_minimal.f L (bif ((sideE L Sa Na Sb Nb).map (·.1)).isEmpty then -1 else 0) (cmN L Na Nb ((sideE L Sa Na Sb Nb).map (·.1))) (cmA Aa Ab ((sideE L Sa Na Sb Nb).map (·.1))) = some (M.minR L (M.plang 1 L (M.lang L Na Aa Sa) (M.lang L Nb Ab Sb))) := by
    cases he : eith (Sa, Sb) with
    | true =>
      obtain ⟨r, hr1⟩ := hg1 he
      have h0 : ((sideE L Sa Na Sb Nb).map (·.1))[0]? = some (Sa, Sb) := by rw [hr1]; rfl
      have hlp := (List.getElem?_eq_some_iff.1 h0).1
      have hne : (((sideE L Sa Na Sb Nb).map (·.1)).isEmpty) = false := by rw [hr1]; rfl
      rw [hne, cond_false, M.rminimal_f hW ⟨by omega, by simp only [cmN, List.length_map]; simp only [List.length_map] at hlp; omega⟩, com_lang ha.l1 hG h0]
    | false =>
      have hnil := hg2 he
      have hne : (((sideE L Sa Na Sb Nb).map (·.1)).isEmpty) = true := by rw [hnil]; rfl
      rw [hne, cond_true, M.rminimal_f hW ⟨by omega, by omega⟩, M.lang_neg (by omega)]
      unfold eith at he
      simp only [Bool.or_eq_false_iff, decide_eq_false_iff_not] at he
      have : M.plang 1 L (M.lang L Na Aa Sa) (M.lang L Nb Ab Sb) = M.emp := by
        rw [M.lang_neg (by omega)]
        funext w
        unfold M.plang M.emp
        cases M.wdB L w <;> rfl
      rw [this]
  rw [hmin, bindD_some]
  unfold M.prodR M.minR
  simp only
  by_cases hc : (M.canN L (M.plang 1 L (M.lang L Na Aa Sa) (M.lang L Nb Ab Sb))).length > 400
  · rw [ifB_of _ _ (decide_eq_true (by omega)), if_pos hc]; rfl
  · rw [ifB_not _ _ (decide_eq_false (by omega)), if_neg hc]; rfl

theorem errP_m {L S : Int} {N : LLI} {A : LB} {L' S' : Int} {N' : LLI} {A' : LB} : errP L S N A L' S' N' A' = M.errP L S N A L' S' N' A' := rfl
theorem common_f (ha : V L Sa Na Aa) (hb : V L Sb Nb Ab) (hok : errP L Sa Na Aa L Sb Nb Ab = true) : difference_Common.f L Sa Na Aa L Sb Nb Ab = some (M.prodR L 1 (M.lang L Na Aa Sa) (M.lang L Nb Ab Sb)) := by
  rw [difference_Common.f_eq, dvalid_f, hok, bindD_some, ifB_not _ _ (by rfl), M.product_f ha.m hb.m hok (.inl rfl), bindD_some]

theorem common_law (L S : Int) (N : LLI) (A : LB) (L' S' : Int) (N' : LLI) (A' : LB) (w : List Int) : ancepslaw28_DifferenceCommon.f L S N A L' S' N' A' w = some (true, ()) := by
  obtain ⟨r, hr⟩ := few_f L S N A L' S' N' A'
  rw [ancepslaw28_DifferenceCommon.f_eq, awake_f, bindD_some, ifB_not _ _ (by rfl), hr, bindD_some]
  cases r with
  | false => rfl
  | true =>
    rw [ifB_not _ _ (by rfl)]
    by_cases hw : ((w.length : Nat) : Int) > 30
    · rw [ifB_of _ _ (decide_eq_true hw)]; rfl
    · rw [ifB_not _ _ (decide_eq_false hw)]
      cases hok : errP L S N A L' S' N' A' with
      | false =>
        have e1 : difference_Common.f L S N A L' S' N' A' = some (0, (0, ([], ([], (1, ()))))) := by rw [difference_Common.f_eq, dvalid_f, hok]; rfl
        have e2 : ancepsref28_Common.f L S N A L' S' N' A' = some (0, (0, ([], ([], (1, ()))))) := by rw [ancepsref28_Common.f_eq, rvalid_f, hok]; rfl
        rw [e1, e2]
        simp only [bindD_some]
        rw [ifB_not _ _ (by rfl), M.same00]
        simp only [bindD_some]
        rw [ifB_not _ _ (by rfl), ifB_of _ _ (by rfl), ifB_of _ _ (by rfl)]
      | true =>
        obtain ⟨o1, o2, ha, hb, hLL⟩ := errP_V hok
        subst hLL
        obtain ⟨Np, Ap, hW, hL⟩ := M.plin ha.m hb.m 1
        rw [common_f ha hb hok, rcommon_f ha hb hok]
        simp only [bindD_some]
        unfold M.prodR
        by_cases hc : (M.canN L' (M.plang 1 L' (M.lang L' N A S) (M.lang L' N' A' S'))).length > 400
        · rw [if_pos hc, ifB_not _ _ (by rfl), M.same00]
          simp only [bindD_some]
          rw [ifB_not _ _ (by rfl), ifB_of _ _ (by rfl), ifB_of _ _ (by rfl)]
        · rw [if_neg hc, ifB_not _ _ (by rfl), M.sameC hW hL]
          simp only [bindD_some]
          rw [ifB_not _ _ (by rfl), ifB_not _ _ (by rfl), M.can_accepts hW hL (by omega) w (by omega), M.accepts_f _ _ _ _ _ (by omega), M.accepts_f _ _ _ _ _ (by omega)]
          simp only [bindD_some]
          rw [M.accepts_lang o1, M.accepts_lang o2]
          unfold M.plang
          cases hg : M.goodW L' w with
          | false => rfl
          | true =>
            rw [M.goodW_wd hg]
            simp only [Bool.true_and]
            generalize M.lang L' N A S (w.map Int.toNat) = x
            generalize M.lang L' N' A' S' (w.map Int.toNat) = y
            cases x <;> cases y <;> rfl
end
end Go.Proofs.C28
