/- Counts: the law. -/
import Derived.Test.YtpminieacndmhaaP28k
import Derived.Test.YtpminieacndmhaaM28o
set_option linter.unusedVariables false
set_option linter.unusedSimpArgs false
namespace Go.Proofs.C28
open Go Go.Proofs.R
set_option linter.unusedVariables false
set_option linter.unusedSimpArgs false
set_option maxRecDepth 100000

section
variable {L Sa Sb : Int} {Na Nb : LLI} {Aa Ab : LB} {R : List Pr} {p0 : Pr}

/-- a weight of pairs, one letter back -/
def bk (L : Int) (Na Nb : LLI) (f : Pr → Int) (p : Pr) : Int := sm (List.range' 0 L.toNat) fun c => f (nx Na Nb p c)
def bks (L : Int) (Na Nb : LLI) : Nat → (Pr → Int) → Pr → Int
  | 0, f => f
  | n + 1, f => bks L Na Nb n (bk L Na Nb f)
theorem bks_succ : ∀ (n : Nat) (f : Pr → Int), bks L Na Nb (n + 1) f = bk L Na Nb (bks L Na Nb n f)
  | 0, f => rfl
  | n + 1, f => bks_succ n (bk L Na Nb f)

/-- a weight that only living pairs have -/
def Alive (f : Pr → Int) : Prop := ∀ p, eith p = false → f p = 0
theorem bk_alive {f : Pr → Int} (h : Alive f) : Alive (bk L Na Nb f) := fun p hp => sm_zero fun c _ => h _ (eith_nx p c hp)

theorem tl_range (p : Pr) (v : Int) (q : Pr) : ∀ (f c : Nat), tl Na Nb p v f c q = sm (List.range' c f) fun x => ad Na Nb p v x q
  | 0, c => rfl
  | f + 1, c => by
    rw [List.range'_succ]
    show ad Na Nb p v c q + tl Na Nb p v f (c + 1) q = ad Na Nb p v c q + sm (List.range' (c + 1) f) _
    rw [tl_range p v q f (c + 1)]

theorem ad_weight (hR : Good2 L Na Nb R) {f : Pr → Int} (hf : Alive f) {p : Pr} (hp : p ∈ R) (v : Int) {c : Nat} (hc : (c : Int) < L) : sm R (fun q => f q * ad Na Nb p v c q) = v * f (nx Na Nb p c) := by
  have e : ∀ q ∈ R, f q * ad Na Nb p v c q = if q = nx Na Nb p c then v * f (nx Na Nb p c) else 0 := by
    intro q hq
    unfold ad
    by_cases h : q = nx Na Nb p c
    · subst h
      rw [if_pos ⟨rfl, hR.e _ hq⟩, if_pos rfl, Int.mul_comm]
    · rw [if_neg (fun h' => h h'.1.symm), if_neg h]; simp
  rw [sm_congr e, sm_single _ _ _ hR.nd]
  by_cases hm : nx Na Nb p c ∈ R
  · rw [if_pos hm]
  · rw [if_neg hm]
    have he : eith (nx Na Nb p c) = false := by
      cases hx : eith (nx Na Nb p c) with
      | false => rfl
      | true => exact absurd (hR.cl p hp c hc hx) hm
    rw [hf _ he]; simp

theorem weight (hR : Good2 L Na Nb R) (hL : 1 ≤ L) (h0 : eith p0 = true → p0 ∈ R) : ∀ (n : Nat) (f : Pr → Int), Alive f → sm R (fun q => f q * cnt L Na Nb R p0 n q) = bks L Na Nb n f p0
  | 0, f, hf => by
    show _ = f p0
    cases he : eith p0 with
    | false =>
      rw [hf p0 he]
      refine sm_zero fun q hq => ?_
      simp only [cnt, he]
      rw [if_neg (by rintro ⟨_, h⟩; cases h)]; simp
    | true =>
      have e : ∀ q ∈ R, f q * cnt L Na Nb R p0 0 q = if q = p0 then f p0 else 0 := by
        intro q hq
        simp only [cnt, he, and_true]
        by_cases h : q = p0
        · subst h; rw [if_pos rfl, if_pos rfl]; simp
        · rw [if_neg h, if_neg h]; simp
      rw [sm_congr e, sm_single _ _ _ hR.nd, if_pos (h0 he)]
  | n + 1, f, hf => by
    have hrec := weight hR hL h0 n (bk L Na Nb f) (bk_alive hf)
    show _ = bks L Na Nb n (bk L Na Nb f) p0
    rw [← hrec]
    have e1 : ∀ q ∈ R, f q * cnt L Na Nb R p0 (n + 1) q = sm R fun p => f q * tl Na Nb p (cnt L Na Nb R p0 n p) L.toNat 0 q := by
      intro q _
      simp only [cnt]
      rw [sm_mul]
    rw [sm_congr e1, sm_swap]
    refine sm_congr fun p hp => ?_
    have e2 : ∀ q ∈ R, f q * tl Na Nb p (cnt L Na Nb R p0 n p) L.toNat 0 q = sm (List.range' 0 L.toNat) fun x => f q * ad Na Nb p (cnt L Na Nb R p0 n p) x q := by
      intro q _
      rw [tl_range, sm_mul]
    rw [sm_congr e2, sm_swap]
    unfold bk
    rw [Int.mul_comm, ← sm_mul]
    refine sm_congr fun c hc => ?_
    have hcL : (c : Int) < L := by have := List.mem_range'_1.1 hc; omega
    exact ad_weight hR hf hp _ hcL

/-- weights out of languages -/
def wL (g : Bool → Bool → Bool) (Aa Ab : LB) (p : Pr) : Int := if g (acc Aa p.1) (acc Ab p.2) then 1 else 0
theorem sm_range {f : Nat → Int} {g : Nat → Nat} : ∀ (n c : Nat), (∀ x, x < c + n → f x = ((g x : Nat) : Int)) → sm (List.range' c n) f = ((((List.range' c n).map g).sum : Nat) : Int)
  | 0, c, h => rfl
  | n + 1, c, h => by
    rw [List.range'_succ, List.map_cons, List.sum_cons]
    show f c + sm (List.range' (c + 1) n) f = _
    rw [h c (by omega), sm_range n (c + 1) (fun x hx => h x (by omega))]; omega
theorem plang_der (k : Int) (hL : 1 ≤ L) {c : Nat} (hc : (c : Int) < L) (la lb : M.Lang) : M.der (M.plang k L la lb) c = M.plang k L (M.der la c) (M.der lb c) := by
  funext w
  show (M.wdB L (c :: w) && M.kindB k (la (c :: w)) (lb (c :: w))) = (M.wdB L w && M.kindB k (la (c :: w)) (lb (c :: w)))
  have : M.wdB L (c :: w) = M.wdB L w := by unfold M.wdB; simp [hc]
  rw [this]
theorem bks_lang (hL : 1 ≤ L) (k : Int) : ∀ (n : Nat) (p : Pr), bks L Na Nb n (wL (M.kindB k) Aa Ab) p = ((M.cntW L.toNat n (M.plang k L (M.lang L Na Aa p.1) (M.lang L Nb Ab p.2)) : Nat) : Int)
  | 0, p => by
    show wL (M.kindB k) Aa Ab p = (((bif M.kindB k (acc Aa p.1) (acc Ab p.2) then 1 else 0 : Nat)) : Int)
    unfold wL
    cases M.kindB k (acc Aa p.1) (acc Ab p.2) <;> rfl
  | n + 1, p => by
    rw [bks_succ]
    unfold bk M.cntW
    rw [List.range_eq_range']
    refine sm_range _ _ fun c hc => ?_
    have hcL : (c : Int) < L := by omega
    rw [plang_der k hL hcL, M.lang_der hcL, M.lang_der hcL]
    exact bks_lang hL k n (nx Na Nb p c)
theorem bks_langB (hL : 1 ≤ L) (k : Int) : ∀ (n : Nat) (p : Pr), bks L Na Nb n (wL (fun x y => M.kindB k y x) Aa Ab) p = ((M.cntW L.toNat n (M.plang k L (M.lang L Nb Ab p.2) (M.lang L Na Aa p.1)) : Nat) : Int)
  | 0, p => by
    show wL (fun x y => M.kindB k y x) Aa Ab p = (((bif M.kindB k (acc Ab p.2) (acc Aa p.1) then 1 else 0 : Nat)) : Int)
    show (if M.kindB k (acc Ab p.2) (acc Aa p.1) = true then (1 : Int) else 0) = _
    cases M.kindB k (acc Ab p.2) (acc Aa p.1) <;> rfl
  | n + 1, p => by
    rw [bks_succ]
    unfold bk M.cntW
    rw [List.range_eq_range']
    refine sm_range _ _ fun c hc => ?_
    have hcL : (c : Int) < L := by omega
    rw [plang_der k hL hcL, M.lang_der hcL, M.lang_der hcL]
    exact bks_langB hL k n (nx Na Nb p c)
theorem wL_alive {g : Bool → Bool → Bool} (h : g false false = false) : Alive (wL g Aa Ab) := by
  intro p hp
  unfold eith at hp
  simp only [Bool.or_eq_false_iff, decide_eq_false_iff_not] at hp
  have e1 : acc Aa p.1 = false := M.acc_neg (by omega)
  have e2 : acc Ab p.2 = false := M.acc_neg (by omega)
  unfold wL
  rw [e1, e2, h]; rfl

theorem nS_lang (hR : Good2 L Na Nb R) (hL : 1 ≤ L) (h0 : eith p0 = true → p0 ∈ R) (n : Nat) : nS L Na Nb Aa Ab R p0 n = ((M.cntW L.toNat n (M.plang 1 L (M.lang L Na Aa p0.1) (M.lang L Nb Ab p0.2)) : Nat) : Int) := by
  rw [← bks_lang hL 1 n p0, ← weight hR hL h0 n _ (wL_alive rfl)]
  refine sm_congr fun p _ => ?_
  unfold cS wL
  cases acc Aa p.1 <;> cases acc Ab p.2 <;> simp [M.kindB]
theorem nA_lang (hR : Good2 L Na Nb R) (hL : 1 ≤ L) (h0 : eith p0 = true → p0 ∈ R) (n : Nat) : nA L Na Nb Aa Ab R p0 n = ((M.cntW L.toNat n (M.plang 3 L (M.lang L Na Aa p0.1) (M.lang L Nb Ab p0.2)) : Nat) : Int) := by
  rw [← bks_lang hL 3 n p0, ← weight hR hL h0 n _ (wL_alive rfl)]
  refine sm_congr fun p _ => ?_
  unfold cA wL
  cases acc Aa p.1 <;> cases acc Ab p.2 <;> simp [M.kindB]
theorem nB_lang (hR : Good2 L Na Nb R) (hL : 1 ≤ L) (h0 : eith p0 = true → p0 ∈ R) (n : Nat) : nB L Na Nb Aa Ab R p0 n = ((M.cntW L.toNat n (M.plang 3 L (M.lang L Nb Ab p0.2) (M.lang L Na Aa p0.1)) : Nat) : Int) := by
  rw [← bks_langB hL 3 n p0, ← weight hR hL h0 n _ (wL_alive rfl)]
  refine sm_congr fun p _ => ?_
  unfold cB wL
  cases acc Aa p.1 <;> cases acc Ab p.2 <;> simp [M.kindB]

theorem compare_val (ha : V L Sa Na Aa) (hb : V L Sb Nb Ab) (hok : errP L Sa Na Aa L Sb Nb Ab = true) {m : Nat} (hm : m ≤ 20) :
    ∃ (x y z : Bool) (w : List Int), difference_Compare.f L Sa Na Aa L Sb Nb Ab (m : Int) = some (x, (y, (z, (w,
      (row (nS L Na Nb Aa Ab ((sideE L Sa Na Sb Nb).map (·.1)) (Sa, Sb)) 0 (m + 1), (row (nA L Na Nb Aa Ab ((sideE L Sa Na Sb Nb).map (·.1)) (Sa, Sb)) 0 (m + 1), (row (nB L Na Nb Aa Ab ((sideE L Sa Na Sb Nb).map (·.1)) (Sa, Sb)) 0 (m + 1), (0, ())))))))) := by
  obtain ⟨w, n, t1, t2, t3⟩ := tell_f ha hb
  obtain ⟨hG, hg1, hg2⟩ := pairs_good ha hb
  have h0 : eith (Sa, Sb) = true → (Sa, Sb) ∈ (sideE L Sa Na Sb Nb).map (·.1) := fun h => by obtain ⟨r, hr⟩ := hg1 h; rw [hr]; simp
  rw [difference_Compare.f_eq, dvalid_f, hok, bindD_some, ifB_not _ _ (by rfl), ifB_not _ _ (decide_eq_false (by omega)), ifB_not _ _ (decide_eq_false (by omega)), t1, bindD_some, within_f ha hb, bindD_some, within_f hb ha, bindD_some, either_f, bindD_some, w64_succ (by omega)]
  refine ⟨n == 0, withinB L Sa Na Aa Sb Nb Ab, withinB L Sb Nb Ab Sa Na Aa, w, ?_⟩
  have go : ∀ M : List (Pr × Int), Rep ((sideE L Sa Na Sb Nb).map (·.1)) M (fun q => IntKind.i64.wrap (cnt L Na Nb ((sideE L Sa Na Sb Nb).map (·.1)) (Sa, Sb) 0 q)) → _ := fun M hM =>
    cmp_l13 ha hb hG h0 (x1 := false) (x2 := false) (x3 := false) (x4 := (n == 0)) (x5 := withinB L Sa Na Aa Sb Nb Ab) (x6 := withinB L Sb Nb Ab Sa Na Aa) (y1 := []) (y2 := []) (y3 := []) (y4 := []) (y5 := w) (m + 1) 0 M [] [] [] (by omega) (by simp) (by simp) (by simp) hM
  simp only [Nat.zero_add] at go
  rw [show ((0 : Nat) : Int) = 0 from rfl] at go
  have hw1 : IntKind.i64.wrap 1 = 1 := by decide
  have hw0 : IntKind.i64.wrap 0 = 0 := by decide
  cases he : eith (Sa, Sb) with
  | true =>
    rw [ifB_true]
    refine go _ ?_
    refine ((Rep.nil (R := (sideE L Sa Na Sb Nb).map (·.1))).put (h0 he) 1).congr fun q => ?_
    simp only [cnt, he, and_true]
    by_cases e : q = (Sa, Sb)
    · rw [if_pos e, hw1]
    · rw [if_neg e, hw0]
  | false =>
    rw [ifB_false]
    refine go _ ?_
    refine Rep.nil.congr fun q => ?_
    simp only [cnt, he]
    rw [if_neg (by rintro ⟨_, h⟩; cases h), hw0]

theorem row_at (h : Nat → Int) (m : Nat) : ixAt (row h 0 (m + 1)) (m : Int) = some (IntKind.i64.wrap (h m)) := by
  rw [ixAt_nat]
  unfold row
  rw [List.getElem?_map, List.getElem?_range' (by omega)]; simp
theorem row_len (h : Nat → Int) (m : Nat) : (row h 0 m).length = m := by unfold row; simp

theorem counts_law (p0 : Int) (p1 : List Int) (p2 p3 : Int) (p4 : List Int) (p5 p6 : Int) (h0 : (Lit.int .u8 p0).wf = true) (h1 : ∀ t ∈ p1, (Lit.int .u8 t).wf = true) (h4 : ∀ t ∈ p4, (Lit.int .u8 t).wf = true) (h6 : (Lit.int .u8 p6).wf = true) :
    ancepslaw28_DifferenceCounts.f p0 p1 p2 p3 p4 p5 p6 = some (true, ()) := by
  rw [ancepslaw28_DifferenceCounts.f_eq, awake_f, bindD_some, ifB_not _ _ (by rfl)]
  by_cases l1 : (((List.length p1) : Nat) : Int) > 60
  · rw [ifB_of _ _ (decide_eq_true l1)]; rfl
  by_cases l4 : (((List.length p4) : Nat) : Int) > 60
  · rw [ifB_not _ _ (decide_eq_false l1), ifB_of _ _ (decide_eq_true l4)]; rfl
  rw [ifB_not _ _ (decide_eq_false l1), ifB_not _ _ (decide_eq_false l4)]
  obtain ⟨Sa, Na, Aa, e1, oa, na⟩ := M.made_f (M.fits_u8 h0) (by omega : p1.length < 4611686018427387904) (fun t ht => M.fits_u8 (h1 t ht)) p2
  obtain ⟨Sb, Nb, Ab, e2, ob, nb⟩ := M.made_f (M.fits_u8 h0) (by omega : p4.length < 4611686018427387904) (fun t ht => M.fits_u8 (h4 t ht)) p5
  have hL4 : M.lettersOf p0 ≤ 4 := by
    unfold M.lettersOf
    have := Int.emod_lt_of_pos p0 (show (0 : Int) < 4 by decide)
    omega
  rw [e1, e2]
  simp only [bindD_some]
  generalize M.lettersOf p0 = L at oa ob hL4
  have ha := V_of (L := L) (S := Sa) (N := Na) (A := Aa) oa
  have hb := V_of (L := L) (S := Sb) (N := Nb) (A := Ab) ob
  have hok : errP L Sa Na Aa L Sb Nb Ab = true := M.errP_of oa ob
  obtain ⟨n, hn, hn12⟩ : ∃ n : Nat, IntKind.i64.wrap (Int.tmod p6 13) = (n : Int) ∧ n ≤ 12 := by
    have hp6 := M.fits_u8 h6
    have h1 : Int.tmod p6 13 = p6 % 13 := Int.tmod_eq_emod_of_nonneg hp6.1
    have h2 : 0 ≤ p6 % 13 ∧ p6 % 13 < 13 := ⟨Int.emod_nonneg _ (by decide), Int.emod_lt_of_pos _ (by decide)⟩
    refine ⟨(p6 % 13).toNat, ?_, by omega⟩
    rw [h1, w64 (by omega)]; omega
  rw [hn]
  obtain ⟨x, y, z, w, hc⟩ := compare_val ha hb hok (m := n) (by omega)
  have s1 := M.prod_small ha.m hb.m na nb 1
  obtain ⟨N1, A1, W1, L1⟩ := M.plin ha.m hb.m 1
  rw [hc, common_f ha hb hok, M.prodR_ok 1 (by omega)]
  simp only [bindD_some]
  rw [w64_succ (by omega), row_len, row_len, row_len]
  rw [ifB_not _ _ (by rfl), ifB_not _ _ (by rfl), ifB_not _ _ (by simp), ifB_not _ _ (by simp), ifB_not _ _ (by simp)]
  have v1 := M.can_V W1 L1 (by omega)
  have o1 := M.can_ok W1 L1 (by omega)
  rw [M.count_f ha.m oa (by omega), M.count_f hb.m ob (by omega), M.count_f v1 o1 (by omega), M.cnt_lang, M.cnt_lang, M.cnt_lang, M.can_lang W1 L1]
  have hp12 := M.pow_le (k := n) (by omega)
  have hLt : L.toNat ≤ 4 := by omega
  have b0 := M.cntW_le L.toNat hLt n (M.lang L Na Aa Sa)
  have b1 := M.cntW_le L.toNat hLt n (M.lang L Nb Ab Sb)
  have b2 := M.cntW_le L.toNat hLt n (M.plang 1 L (M.lang L Na Aa Sa) (M.lang L Nb Ab Sb))
  have b3 := M.cntW_le L.toNat hLt n (M.plang 3 L (M.lang L Na Aa Sa) (M.lang L Nb Ab Sb))
  have b4 := M.cntW_le L.toNat hLt n (M.plang 3 L (M.lang L Nb Ab Sb) (M.lang L Na Aa Sa))
  have a1 := M.cntW_add L.toNat n _ _ _ (M.parts_count (L := L) (la := M.lang L Na Aa Sa) (lb := M.lang L Nb Ab Sb) M.lang_of)
  have a2 := M.cntW_add L.toNat n _ _ _ (M.parts_count (L := L) (la := M.lang L Nb Ab Sb) (lb := M.lang L Na Aa Sa) M.lang_of)
  rw [M.plang_comm 1 (.inl rfl) (M.lang L Nb Ab Sb) (M.lang L Na Aa Sa)] at a2
  rw [M.countR_ok (by omega), M.countR_ok (by omega), M.countR_ok (by omega)]
  obtain ⟨hG, hg1, hg2⟩ := pairs_good ha hb
  have hst : eith (Sa, Sb) = true → (Sa, Sb) ∈ (sideE L Sa Na Sb Nb).map (·.1) := fun h => by obtain ⟨r, hr⟩ := hg1 h; rw [hr]; simp
  have hl1 := ha.l1
  simp only [bindD_some]
  rw [ifB_of _ _ (by rfl), ifB_of _ _ (by rfl), ifB_of _ _ (by rfl), row_at, row_at, row_at]
  simp only [bindD_some]
  rw [nS_lang hG hl1 hst, nA_lang hG hl1 hst, nB_lang hG hl1 hst]
  dsimp only
  generalize M.cntW L.toNat n (M.plang 1 L (M.lang L Na Aa Sa) (M.lang L Nb Ab Sb)) = i at *
  generalize M.cntW L.toNat n (M.plang 3 L (M.lang L Na Aa Sa) (M.lang L Nb Ab Sb)) = j at *
  generalize M.cntW L.toNat n (M.plang 3 L (M.lang L Nb Ab Sb) (M.lang L Na Aa Sa)) = k at *
  generalize M.cntW L.toNat n (M.lang L Na Aa Sa) = a at *
  generalize M.cntW L.toNat n (M.lang L Nb Ab Sb) = b at *
  have h1 := w64 (n := (i : Int)) (by omega)
  have h2 := w64 (n := (j : Int)) (by omega)
  have h3 := w64 (n := (k : Int)) (by omega)
  have h4 := w64 (n := (i : Int) + (j : Int)) (by omega)
  have h5 := w64 (n := (i : Int) + (k : Int)) (by omega)
  rw [h1, h2, h3, h4, h5, ifB_of _ _ (beq_self_eq_true _), ifB_of _ _ (by rw [a1]; simp), a2]
  simp
end
end Go.Proofs.C28
