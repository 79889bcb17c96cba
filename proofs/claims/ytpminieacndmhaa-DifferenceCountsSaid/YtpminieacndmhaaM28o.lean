/- Parts: the law. -/
import Derived.Test.YtpminieacndmhaaM28n
set_option linter.unusedVariables false
set_option linter.unusedSimpArgs false
namespace Go.Proofs.C28.M
open Go Go.Proofs.R
set_option linter.unusedVariables false
set_option linter.unusedSimpArgs false
set_option maxRecDepth 100000

theorem fits_u8 {n : Int} (h : (Lit.int .u8 n).wf = true) : 0 ≤ n ∧ n < 256 := by
  simp only [Lit.wf, Bool.and_eq_true, decide_eq_true_eq] at h
  have h1 : IntKind.u8.min = 0 := rfl
  have h2 : IntKind.u8.max = 255 := rfl
  omega

/-! ### described automata -/
theorem made_l8 {n L : Nat} (hL : 1 ≤ L ∧ L ≤ 4) (hn : n ≤ 12) {i : Nat} (hi : i < n) {Nx : List Int} (hNx : n * L ≤ Nx.length) (hlen : Nx.length < 4611686018427387904) (hu : ∀ t ∈ Nx, 0 ≤ t ∧ t < 256) {d1 d2 z1 z2 S : Int} {e1 : LLI} {e2 : LB} {N : LLI} {A : LB} (hN : N.length ≤ 12) (hA : A.length ≤ 12) :
    ∀ (f c : Nat) (r : List Int), c + f = L → r.length = c → (∀ t ∈ r, -1 ≤ t ∧ t < (n : Int)) →
    ∃ (r' : List Int) (x : Bool), r'.length = L ∧ (∀ t ∈ r', -1 ≤ t ∧ t < (n : Int)) ∧
      ancepsref06_Made.l8 (n : Int) (i : Int) (c : Int) d1 Nx d2 z1 z2 (L : Int) S r e1 e2 N A = ancepsref06_Made.l4 (n : Int) ((i + 1 : Nat) : Int) d1 Nx d2 z1 z2 (L : Int) 0 e1 e2 (N ++ [r']) (A ++ [x])
  | 0, c, r, hc, hr, ht => by
    have hc' : c = L := by omega
    subst hc'
    refine ⟨r, bitsOp .and .u16 (shrInt .u16 d2 (i : Int)) (1 : Int) == (1 : Int), hr, ht, ?_⟩
    rw [ancepsref06_Made.l8_eq, ifB_not _ _ (decide_eq_false (by omega)), grow_ok (by simp only [List.length_cons, List.length_nil]; omega), bindD_some, ifB_not _ _ (decide_eq_false (by omega)), grow_ok (by simp only [List.length_cons, List.length_nil]; omega), bindD_some, w64_succ (by omega)]
  | f + 1, c, r, hc, hr, ht => by
    have hcL : c < L := by omega
    have h1 : i * L + c < Nx.length := by
      have h2 : (i + 1) * L ≤ n * L := Nat.mul_le_mul_right L (by omega)
      have h3 : (i + 1) * L = i * L + L := by rw [Nat.add_mul]; omega
      omega
    have hw0 : IntKind.i64.wrap ((i : Int) * (L : Int)) = ((i * L : Nat) : Int) := by
      rw [show ((i : Int) * (L : Int)) = ((i * L : Nat) : Int) by simp]
      exact w64_nat (by omega)
    have hw1 : IntKind.i64.wrap (((i * L : Nat) : Int) + (c : Int)) = ((i * L + c : Nat) : Int) := by
      rw [show (((i * L : Nat) : Int) + (c : Int)) = ((i * L + c : Nat) : Int) by simp]
      exact w64_nat (by omega)
    have hat : Nx[i * L + c]? = some Nx[i * L + c] := List.getElem?_eq_getElem h1
    have ht0 := hu _ (List.getElem_mem h1)
    have hwn : IntKind.i64.wrap ((n : Int) + 1) = ((n + 1 : Nat) : Int) := w64_succ (by omega)
    have hwt : IntKind.i64.wrap (Nx[i * L + c]) = Nx[i * L + c] := w64 (by omega)
    have hm : 0 ≤ Int.tmod (Nx[i * L + c]) ((n + 1 : Nat) : Int) ∧ Int.tmod (Nx[i * L + c]) ((n + 1 : Nat) : Int) < ((n + 1 : Nat) : Int) := by
      rw [Int.tmod_eq_emod_of_nonneg ht0.1]
      exact ⟨Int.emod_nonneg _ (by omega), Int.emod_lt_of_pos _ (by omega)⟩
    have hwm : IntKind.i64.wrap (Int.tmod (Nx[i * L + c]) ((n + 1 : Nat) : Int) - 1) = Int.tmod (Nx[i * L + c]) ((n + 1 : Nat) : Int) - 1 := w64 (by omega)
    obtain ⟨r', x, h4, h5, h6⟩ := made_l8 hL hn hi hNx hlen hu hN hA (d1 := d1) (d2 := d2) (z1 := z1) (z2 := z2) (S := S) (e1 := e1) (e2 := e2) f (c + 1) (r ++ [Int.tmod (Nx[i * L + c]) ((n + 1 : Nat) : Int) - 1]) (by omega) (by simp; omega) (by
      intro t htt
      rcases List.mem_append.1 htt with htt | htt
      · exact ht t htt
      · simp only [List.mem_cons, List.not_mem_nil, or_false] at htt
        subst htt
        omega)
    refine ⟨r', x, h4, h5, ?_⟩
    rw [ancepsref06_Made.l8_eq, ifB_of _ _ (decide_eq_true (by omega)), hw0, hw1, ixAt_nat, hat, bindD_some, hwn, hwt, hwm, ifB_not _ _ (beq_eq_false_iff_ne.2 (by omega)), grow_ok (by simp only [List.length_cons, List.length_nil]; omega), bindD_some, w64_succ (by omega)]
    exact h6

theorem made_l4 {n L : Nat} (hL : 1 ≤ L ∧ L ≤ 4) (hn : n ≤ 12) {Nx : List Int} (hNx : n * L ≤ Nx.length) (hlen : Nx.length < 4611686018427387904) (hu : ∀ t ∈ Nx, 0 ≤ t ∧ t < 256) {d1 d2 z1 z2 : Int} {e1 : LLI} {e2 : LB} :
    ∀ (f i : Nat) (S : Int) (N : LLI) (A : LB), i + f = n → N.length = i → A.length = i → (∀ r ∈ N, r.length = L ∧ ∀ t ∈ r, -1 ≤ t ∧ t < (n : Int)) →
    ∃ (N' : LLI) (A' : LB), ancepsref06_Made.l4 (n : Int) (i : Int) d1 Nx d2 z1 z2 (L : Int) S e1 e2 N A = some ((L : Int), (bif Nat.beq f 0 then S else 0, (N', (A', ())))) ∧ N'.length = n ∧ A'.length = n ∧ ∀ r ∈ N', r.length = L ∧ ∀ t ∈ r, -1 ≤ t ∧ t < (n : Int)
  | 0, i, S, N, A, hf, h1, h2, h3 => by
    refine ⟨N, A, ?_, by omega, by omega, h3⟩
    rw [ancepsref06_Made.l4_eq, ifB_not _ _ (decide_eq_false (by omega))]
    rfl
  | f + 1, i, S, N, A, hf, h1, h2, h3 => by
    obtain ⟨r', x, h4, h5, h6⟩ := made_l8 hL hn (i := i) (by omega) hNx hlen hu (N := N) (A := A) (by omega) (by omega) (d1 := d1) (d2 := d2) (z1 := z1) (z2 := z2) (S := S) (e1 := e1) (e2 := e2) L 0 [] (by omega) rfl (by simp)
    obtain ⟨N', A', h7, h8, h9, h10⟩ := made_l4 hL hn hNx hlen hu (d1 := d1) (d2 := d2) (z1 := z1) (z2 := z2) (e1 := e1) (e2 := e2) f (i + 1) 0 (N ++ [r']) (A ++ [x]) (by omega) (by simp [h1]) (by simp [h2]) (by
      intro r hr
      rcases List.mem_append.1 hr with hr | hr
      · exact h3 r hr
      · simp only [List.mem_cons, List.not_mem_nil, or_false] at hr
        subst hr
        exact ⟨h4, h5⟩)
    refine ⟨N', A', ?_, h8, h9, h10⟩
    rw [show ((0 : Nat) : Int) = 0 from rfl] at h6
    rw [ancepsref06_Made.l4_eq, ifB_of _ _ (decide_eq_true (by omega)), h6, h7]
    cases f <;> rfl

def lettersOf (p : Int) : Int := 1 + p % 4
theorem made_f {p : Int} (hp : 0 ≤ p ∧ p < 256) {Nx : List Int} (hlen : Nx.length < 4611686018427387904) (hu : ∀ t ∈ Nx, 0 ≤ t ∧ t < 256) (ac : Int) : ∃ (S : Int) (N : LLI) (A : LB), ancepsref06_Made.f p Nx ac = some (lettersOf p, (S, (N, (A, ())))) ∧ ok (lettersOf p) S N A = true ∧ N.length ≤ 12 := by
  have h1 : Int.tmod p 4 = p % 4 := Int.tmod_eq_emod_of_nonneg hp.1
  have h2 : 0 ≤ p % 4 ∧ p % 4 < 4 := ⟨Int.emod_nonneg _ (by decide), Int.emod_lt_of_pos _ (by decide)⟩
  obtain ⟨l, hl⟩ : ∃ l : Nat, p % 4 = l := ⟨(p % 4).toNat, by omega⟩
  have hw1 : IntKind.i64.wrap (Int.tmod p 4) = (l : Int) := by rw [h1, hl]; exact w64_nat (by omega)
  have hw2 : IntKind.i64.wrap (1 + (l : Int)) = ((l + 1 : Nat) : Int) := by rw [w64 (by omega)]; omega
  have hLp : lettersOf p = ((l + 1 : Nat) : Int) := by unfold lettersOf; rw [hl]; omega
  have hq : IntKind.i64.wrap (Int.tdiv ((Nx.length : Nat) : Int) ((l + 1 : Nat) : Int)) = ((Nx.length / (l + 1) : Nat) : Int) := by
    rw [Int.tdiv_eq_ediv_of_nonneg (by omega), ← Int.natCast_ediv]
    have : Nx.length / (l + 1) ≤ Nx.length := Nat.div_le_self _ _
    exact w64_nat (by omega)
  have hmin : (if ((12 : Int) < ((Nx.length / (l + 1) : Nat) : Int)) then (12 : Int) else ((Nx.length / (l + 1) : Nat) : Int)) = ((min (Nx.length / (l + 1)) 12 : Nat) : Int) := by
    split <;> omega
  have hmul : min (Nx.length / (l + 1)) 12 * (l + 1) ≤ Nx.length := Nat.le_trans (Nat.mul_le_mul_right _ (Nat.min_le_left _ _)) (Nat.div_mul_le_self _ _)
  obtain ⟨N', A', h7, h8, h9, h10⟩ := made_l4 (n := min (Nx.length / (l + 1)) 12) (L := l + 1) (by omega) (Nat.min_le_right _ _) hmul hlen hu (d1 := p) (d2 := ac) (z1 := 0) (z2 := 0) (e1 := []) (e2 := []) (min (Nx.length / (l + 1)) 12) 0 (-1) [] [] (by omega) rfl rfl (by simp)
  refine ⟨bif Nat.beq (min (Nx.length / (l + 1)) 12) 0 then -1 else 0, N', A', ?_, ?_⟩
  · rw [ancepsref06_Made.f_eq, hw1, hw2, ifB_not _ _ (beq_eq_false_iff_ne.2 (by omega)), hq, hmin, hLp]
    exact h7
  · refine ⟨?_, by rw [h8]; exact Nat.min_le_right _ _⟩
    rw [hLp]
    have h12 : min (Nx.length / (l + 1)) 12 ≤ 12 := Nat.min_le_right _ _
    generalize min (Nx.length / (l + 1)) 12 = n at h8 h9 h10 h12 ⊢
    unfold ok headOk
    simp only [Bool.and_eq_true, Bool.not_eq_true', decide_eq_false_iff_not, beq_iff_eq, List.all_eq_true]
    refine ⟨⟨⟨⟨⟨by omega, by omega⟩, by omega⟩, by omega⟩, ?_⟩, ?_⟩
    · cases n with
      | zero =>
        have : N' = [] := List.length_eq_zero_iff.1 h8
        subst this
        rfl
      | succ n =>
        have hb : (bif Nat.beq (n + 1) 0 then (-1 : Int) else 0) = 0 := rfl
        rw [hb]
        have : N'.length = n + 1 := h8
        simp [this]
    · intro r hr
      obtain ⟨r1, r2⟩ := h10 r hr
      unfold rowOk
      simp only [Bool.and_eq_true, beq_iff_eq, Bool.not_eq_true', List.any_eq_false]
      refine ⟨by omega, fun t ht => ?_⟩
      have := r2 t ht
      unfold badT
      simp only [Bool.or_eq_true, decide_eq_true_eq, not_or]
      rw [h8]
      omega


/-! ### how many words of a length a language has -/
def cntW (n : Nat) : Nat → Lang → Nat
  | 0, l => bif l [] then 1 else 0
  | k + 1, l => ((List.range n).map fun c => cntW n k (der l c)).sum
theorem cntW_emp (n : Nat) : ∀ k, cntW n k emp = 0
  | 0 => rfl
  | k + 1 => sum_zero fun x hx => by
    simp only [List.mem_map] at hx
    obtain ⟨c, _, rfl⟩ := hx
    exact cntW_emp n k
theorem cnt_lang {L : Int} {N : LLI} {A : LB} : ∀ (k : Nat) (s : Int), cnt L N A k s = cntW L.toNat k (lang L N A s)
  | 0, s => rfl
  | k + 1, s => by
    unfold cnt
    split
    · rename_i h; rw [lang_neg h, cntW_emp]
    · unfold cntW
      congr 1
      apply List.map_congr_left
      intro c hc
      have hcL : (c : Int) < L := by have := List.mem_range.1 hc; omega
      rw [lang_der hcL]; exact cnt_lang k _
theorem sum_add : ∀ (l : List Nat) (f g h : Nat → Nat), (∀ c ∈ l, f c = g c + h c) → (l.map f).sum = (l.map g).sum + (l.map h).sum
  | [], _, _, _, _ => rfl
  | c :: l, f, g, h, e => by
    simp only [List.map_cons, List.sum_cons]
    rw [e c List.mem_cons_self, sum_add l f g h (fun x hx => e x (List.mem_cons_of_mem _ hx))]; omega
theorem cntW_add (n : Nat) : ∀ (k : Nat) (a x y : Lang), (∀ w, (a w).toNat = (x w).toNat + (y w).toNat) → cntW n k a = cntW n k x + cntW n k y
  | 0, a, x, y, h => by
    have := h []
    unfold cntW
    cases h1 : a [] <;> cases h2 : x [] <;> cases h3 : y [] <;> rw [h1, h2, h3] at this <;> first | rfl | (simp at this)
  | k + 1, a, x, y, h => by
    unfold cntW
    exact sum_add _ _ _ _ fun c _ => cntW_add n k (der a c) (der x c) (der y c) fun w => h (c :: w)
theorem sum_bound : ∀ (l : List Nat) (f : Nat → Nat) (b : Nat), (∀ c ∈ l, f c ≤ b) → (l.map f).sum ≤ l.length * b
  | [], _, _, _ => by simp
  | c :: l, f, b, h => by
    simp only [List.map_cons, List.sum_cons, List.length_cons]
    have h1 := h c List.mem_cons_self
    have h2 := sum_bound l f b fun x hx => h x (List.mem_cons_of_mem _ hx)
    rw [Nat.add_mul]; omega
theorem cntW_le (n : Nat) (hn : n ≤ 4) : ∀ (k : Nat) (l : Lang), cntW n k l ≤ 4 ^ k
  | 0, l => by unfold cntW; cases l [] <;> decide
  | k + 1, l => by
    unfold cntW
    have := sum_bound (List.range n) (fun c => cntW n k (der l c)) (4 ^ k) fun c _ => cntW_le n hn k _
    rw [List.length_range] at this
    have h2 : n * 4 ^ k ≤ 4 * 4 ^ k := Nat.mul_le_mul_right _ hn
    rw [Nat.pow_succ, Nat.mul_comm (4 ^ k) 4]; omega
theorem pow_le {k : Nat} (h : k ≤ 20) : 4 ^ k ≤ 1099511627776 := by
  have := Nat.pow_le_pow_right (show 0 < 4 by decide) h
  exact Nat.le_trans this (by decide)

section
variable {L Sa Sb : Int} {Na Nb : LLI} {Aa Ab : LB}
theorem walk_small (ha : V L Sa Na Aa) (hb : V L Sb Nb Ab) (hna : Na.length ≤ 12) (hnb : Nb.length ≤ 12) : (walkL L Sa Na Sb Nb).length ≤ 169 := by
  obtain ⟨hp, _⟩ := walk_pairs ha hb
  have h1 : ((keysL (walkL L Sa Na Sb Nb)).map fun p : Pr => (p.1 + 1).toNat * 13 + (p.2 + 1).toNat).Nodup := by
    have := hp.nd
    unfold List.Nodup at this ⊢
    rw [List.pairwise_map]
    refine List.Pairwise.imp_of_mem ?_ this
    intro x y hx hy hne e
    apply hne
    unfold keysL at hx hy
    simp only [List.mem_map] at hx hy
    obtain ⟨v, hv, rfl⟩ := hx
    obtain ⟨w, hw, rfl⟩ := hy
    have h2 := hp.u v hv
    have h3 := hp.u w hw
    unfold inU at h2 h3
    have e1 : v.1.1 = w.1.1 := by omega
    have e2 : v.1.2 = w.1.2 := by omega
    exact Prod.ext e1 e2
  have h2 := nodup_le 169 _ h1 (by
    intro x hx
    unfold keysL at hx
    simp only [List.mem_map] at hx
    obtain ⟨p, ⟨v, hv, rfl⟩, rfl⟩ := hx
    have h2 := hp.u v hv
    unfold inU at h2
    omega)
  simpa [keysL] using h2
theorem prod_small (ha : V L Sa Na Aa) (hb : V L Sb Nb Ab) (hna : Na.length ≤ 12) (hnb : Nb.length ≤ 12) (k : Int) : (canN L (plang k L (lang L Na Aa Sa) (lang L Nb Ab Sb))).length ≤ 169 := by
  obtain ⟨hp, h0⟩ := walk_pairs ha hb
  have hW := prod_W (Aa := Aa) (Ab := Ab) ha.l1 ha.l8 hp k
  have hl0 := (List.getElem?_eq_some_iff.1 h0).1
  have hl : Lin L (prodN L Na Nb (walkL L Sa Na Sb Nb)) (prodA k Aa Ab (walkL L Sa Na Sb Nb)) (plang k L (lang L Na Aa Sa) (lang L Nb Ab Sb)) := by
    rw [← prod_lang ha.l1 hp k h0]
    exact lin_lang ⟨by omega, by simp [prodN]; omega⟩
  have := can_len hW hl
  have h2 := walk_small ha hb hna hnb
  simp [prodN] at this; omega
theorem prodR_ok (k : Int) {la lb : Lang} (h : (canN L (plang k L la lb)).length ≤ 400) : prodR L k la lb = (L, (canS (plang k L la lb), (canN L (plang k L la lb), (canA L (plang k L la lb), (0, ()))))) := by
  unfold prodR; rw [if_neg (by omega)]
theorem plang_comm (k : Int) (hk : k = 1 ∨ k = 2) (la lb : Lang) : plang k L la lb = plang k L lb la := by
  funext w
  unfold plang
  rcases hk with rfl | rfl <;> cases la w <;> cases lb w <;> rfl
theorem parts_union {la lb : Lang} (ha : Of L la) : plang 2 L (plang 1 L la lb) (plang 3 L la lb) = la := by
  funext w
  unfold plang
  cases hw : wdB L w with
  | false =>
    cases hx : la w with
    | false => rfl
    | true => have := wdB_iff.2 (ha w hx); rw [hw] at this; cases this
  | true => cases la w <;> cases lb w <;> rfl
theorem parts_count {la lb : Lang} (ha : Of L la) (w : List Nat) : (la w).toNat = (plang 1 L la lb w).toNat + (plang 3 L la lb w).toNat := by
  unfold plang
  cases hw : wdB L w with
  | false =>
    cases hx : la w with
    | false => rfl
    | true => have := wdB_iff.2 (ha w hx); rw [hw] at this; cases this
  | true => cases la w <;> cases lb w <;> rfl
theorem errP_of (h1 : ok L Sa Na Aa = true) (h2 : ok L Sb Nb Ab = true) : errP L Sa Na Aa L Sb Nb Ab = true := by unfold errP; rw [h1, h2]; simp
theorem countR_ok {c : Nat} (h : c ≤ 1099511627776) : countR c = ((c : Int), (0, ())) := by unfold countR; rw [if_neg (by omega)]

end
end Go.Proofs.C28.M
