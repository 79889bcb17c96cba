/- Plain words for the chapter of syllables: described sounds. -/
import Derived.Test.YtclcobhnoliknaaP15g
set_option linter.unusedVariables false
set_option linter.unusedSimpArgs false
namespace Go.Proofs.C15
open Go Go.Proofs.R
set_option linter.unusedVariables false
set_option maxRecDepth 100000
def tab16 : List Snd := (((1 : Int), ((3 : Int), (ByteArray.mk (List.toArray ((97 : UInt8) :: ([] : (List UInt8))))))) :: (((1 : Int), ((1 : Int), (ByteArray.mk (List.toArray ((101 : UInt8) :: ([] : (List UInt8))))))) :: (((1 : Int), ((2 : Int), (ByteArray.mk (List.toArray ((111 : UInt8) :: ([] : (List UInt8))))))) :: (((1 : Int), ((3 : Int), (ByteArray.mk (List.toArray ((105 : UInt8) :: ([] : (List UInt8))))))) :: (((2 : Int), ((2 : Int), (ByteArray.mk (List.toArray ((97 : UInt8) :: ((101 : UInt8) :: ([] : (List UInt8)))))))) :: (((3 : Int), ((0 : Int), (ByteArray.mk (List.toArray ((116 : UInt8) :: ([] : (List UInt8))))))) :: (((3 : Int), ((0 : Int), (ByteArray.mk (List.toArray ((98 : UInt8) :: ([] : (List UInt8))))))) :: (((4 : Int), ((0 : Int), (ByteArray.mk (List.toArray ((114 : UInt8) :: ([] : (List UInt8))))))) :: (((4 : Int), ((0 : Int), (ByteArray.mk (List.toArray ((108 : UInt8) :: ([] : (List UInt8))))))) :: (((5 : Int), ((0 : Int), (ByteArray.mk (List.toArray ((109 : UInt8) :: ([] : (List UInt8))))))) :: (((5 : Int), ((0 : Int), (ByteArray.mk (List.toArray ((110 : UInt8) :: ([] : (List UInt8))))))) :: (((6 : Int), ((0 : Int), (ByteArray.mk (List.toArray ((115 : UInt8) :: ([] : (List UInt8))))))) :: (((7 : Int), ((0 : Int), (ByteArray.mk (List.toArray ((120 : UInt8) :: ([] : (List UInt8))))))) :: (((8 : Int), ((0 : Int), (ByteArray.mk (List.toArray ((118 : UInt8) :: ([] : (List UInt8))))))) :: (((9 : Int), ((0 : Int), (ByteArray.mk (List.toArray ((104 : UInt8) :: ([] : (List UInt8))))))) :: (((1 : Int), ((3 : Int), (ByteArray.mk (List.toArray ((117 : UInt8) :: ([] : (List UInt8))))))) :: ([] : (List (Int × (Int × ByteArray))))))))))))))))))))
theorem tab16_all : (tab16.all fun x => sval x.1 x.2.1 x.2.2 == 0) = true := by kernel_rfl
theorem tab16_ok {x : Snd} (h : x ∈ tab16) : sval x.1 x.2.1 x.2.2 = 0 := by
  have := List.all_eq_true.1 tab16_all x h
  simpa using this
theorem fits_u8 {n : Int} (h : (Lit.int .u8 n).wf = true) : 0 ≤ n ∧ n < 256 := by
  simp only [Lit.wf, Bool.and_eq_true, decide_eq_true_eq] at h
  have h1 : IntKind.u8.min = 0 := rfl
  have h2 : IntKind.u8.max = 255 := rfl
  omega
theorem Made11_f {b : Int} (h : 0 ≤ b ∧ b < 256) : ∃ x, x ∈ tab16 ∧ ancepsref11_Made.f b = some (x.1, (x.2.1, (x.2.2, ()))) := by
  have hl : ((tab16.length : Nat) : Int) = 16 := rfl
  have hm : Int.tmod (IntKind.i64.wrap b) ((tab16.length : Nat) : Int) = ((b.toNat % 16 : Nat) : Int) := by
    rw [w64 (by omega), hl, Int.tmod_eq_emod_of_nonneg h.1]; omega
  have hlt : b.toNat % 16 < tab16.length := by have : tab16.length = 16 := rfl; omega
  refine ⟨tab16[b.toNat % 16], List.getElem_mem hlt, ?_⟩
  have hi : ixAt tab16 (Int.tmod (IntKind.i64.wrap b) ((tab16.length : Nat) : Int)) = some tab16[b.toNat % 16] := by
    rw [hm, ixAt_nat, List.getElem?_eq_getElem hlt]
  have he := ancepsref11_Made.f_eq b
  refine he.trans ?_
  show bindD (ixAt tab16 (Int.tmod (IntKind.i64.wrap b) ((tab16.length : Nat) : Int))) (fun _ => bindD (ixAt tab16 (Int.tmod (IntKind.i64.wrap b) ((tab16.length : Nat) : Int))) fun t => some (t.1, (t.2.1, (t.2.2, ())))) = _
  rw [hi]; rfl
theorem All_l3 : ∀ (suf pre : List Int) (out : List Snd), (pre ++ suf).length < 1000000 → (∀ b ∈ suf, 0 ≤ b ∧ b < 256) → out.length = pre.length → (∀ x ∈ out, x ∈ tab16) →
    ∃ xs, xs.length = (pre ++ suf).length ∧ (∀ x ∈ xs, x ∈ tab16) ∧ ancepsref11_All.l3 (pre ++ suf) (pre.length : Nat) out = some (xs, ())
  | [], pre, out, h, hb, ho, hx => ⟨out, by simpa using ho, hx, by rw [ancepsref11_All.l3_eq, ifB_not _ _ (lt_end pre)]⟩
  | b :: suf, pre, out, h, hb, ho, hx => by
    have hl : pre.length < 1000000 := by simp only [List.length_append] at h; omega
    obtain ⟨x, hxt, hxe⟩ := Made11_f (hb b (by simp))
    obtain ⟨xs, h1, h2, h3⟩ := All_l3 suf (pre ++ [b]) (out ++ [(x.1, (x.2.1, x.2.2))]) (by rw [← app_at]; exact h) (fun c hc => hb c (by simp [hc])) (by simp [ho]) (fun y hy => by
      rcases List.mem_append.1 hy with hy | hy
      · exact hx y hy
      · rw [List.mem_singleton.1 hy]; exact hxt)
    refine ⟨xs, by rw [h1, ← app_at], h2, ?_⟩
    rw [ancepsref11_All.l3_eq, ifB_of _ _ (lt_at pre b suf), ixAt_at, bindD_some, hxe]
    simp only [bindD_some]
    rw [grow_one out (by omega), bindD_some, w_pre pre b (by omega), app_at pre b suf]
    exact h3
theorem asc_snoc : ∀ {l : List Int} {a c : Int}, Asc a l → (∀ b ∈ l, b ≤ c) → a ≤ c → Asc a (l ++ [c])
  | [], _, _, _, _, h => ⟨h, trivial⟩
  | b :: l, _, c, h, hb, _ => ⟨h.1, asc_snoc h.2 (fun x hx => hb x (by simp [hx])) (hb b (by simp))⟩
theorem Made15_l7 (u : List Int) (xs : List Snd) (hxs : xs.length < 1000) (at_ : Nat) (hat : at_ ≤ xs.length) : ∀ (suf pre : List Int) (bs : List Int), (pre ++ suf).length < 1000000 → (∀ b ∈ suf, 0 ≤ b ∧ b < 256) → Asc 0 bs → (∀ b ∈ bs, 0 ≤ b ∧ b ≤ at_) → bs.length ≤ 20 →
    ∃ cs, Asc 0 cs ∧ (∀ b ∈ cs, 0 ≤ b ∧ b ≤ at_) ∧ cs.length ≤ 20 ∧ ancepsref15_Made.l7 (at_ : Int) (pre.length : Nat) u (pre ++ suf) xs bs = ancepsref15_Made.l4 ((at_ + 1 : Nat) : Int) u (pre ++ suf) xs cs
  | [], pre, bs, h, hb, ha, hbb, hl => ⟨bs, ha, hbb, hl, by rw [ancepsref15_Made.l7_eq, ifB_not _ _ (lt_end pre), w64_succ (by omega)]⟩
  | b :: suf, pre, bs, h, hb, ha, hbb, hl => by
    have hl1 : pre.length < 1000000 := by simp only [List.length_append] at h; omega
    have hbv := hb b (by simp)
    rw [ancepsref15_Made.l7_eq, ifB_of _ _ (lt_at pre b suf)]
    by_cases h20 : ((bs.length : Nat) : Int) < 20
    · have hne : (IntKind.i64.wrap (((xs.length : Nat) : Int) + 1) == 0) = false := by rw [w64_succ (by omega), beq_eq_false_iff_ne]; omega
      rw [ifB_of _ _ (decide_eq_true h20), ixAt_at, bindD_some, hne, ifB_false, grow_one bs (by omega), bindD_some, w_pre pre b (by omega), app_at pre b suf]
      obtain ⟨c1, r1, r2, r3, r4⟩ := Made15_l7 u xs hxs at_ hat suf (pre ++ [b]) (bs ++ [(at_ : Int)]) (by rw [← app_at]; exact h) (fun c hc => hb c (by simp [hc])) (asc_snoc ha (fun c hc => (hbb c hc).2) (by omega)) (fun c hc => by
        rcases List.mem_append.1 hc with hc | hc
        · exact hbb c hc
        · rw [List.mem_singleton.1 hc]; omega) (by simp only [List.length_append, List.length_singleton]; omega)
      obtain ⟨c2, q1, q2, q3, q4⟩ := Made15_l7 u xs hxs at_ hat suf (pre ++ [b]) bs (by rw [← app_at]; exact h) (fun c hc => hb c (by simp [hc])) ha hbb hl
      rw [r4, q4]
      cases (Int.tmod (IntKind.i64.wrap b) (IntKind.i64.wrap (((xs.length : Nat) : Int) + 1)) == (at_ : Int))
      · exact ⟨c2, q1, q2, q3, rfl⟩
      · exact ⟨c1, r1, r2, r3, rfl⟩
    · rw [ifB_not _ _ (decide_eq_false h20), w64_succ (n := at_) (by omega)]
      exact ⟨bs, ha, hbb, hl, rfl⟩
theorem Made15_l4 (u v : List Int) (xs : List Snd) (hxs : xs.length < 1000) (hv : v.length < 1000000) (hvb : ∀ b ∈ v, 0 ≤ b ∧ b < 256) : ∀ (n at_ : Nat) (bs : List Int), at_ + n = xs.length + 1 → Asc 0 bs → (∀ b ∈ bs, 0 ≤ b ∧ b ≤ at_ ∧ b ≤ xs.length) → bs.length ≤ 20 →
    ∃ cs, Asc 0 cs ∧ (∀ b ∈ cs, 0 ≤ b ∧ b ≤ xs.length) ∧ cs.length ≤ 20 ∧ ancepsref15_Made.l4 (at_ : Int) u v xs bs = some (xs, (cs, ()))
  | 0, at_, bs, hn, ha, hb, hl => ⟨bs, ha, fun b h => ⟨(hb b h).1, (hb b h).2.2⟩, hl, by rw [ancepsref15_Made.l4_eq, ifB_not _ _ (decide_eq_false (by omega))]⟩
  | n + 1, at_, bs, hn, ha, hb, hl => by
    obtain ⟨c1, r1, r2, r3, r4⟩ := Made15_l7 u xs hxs at_ (by omega) v [] bs hv hvb ha (fun b h => ⟨(hb b h).1, (hb b h).2.1⟩) hl
    obtain ⟨c2, q1, q2, q3, q4⟩ := Made15_l4 u v xs hxs hv hvb n (at_ + 1) c1 (by omega) r1 (fun b h => by have := r2 b h; omega) r3
    refine ⟨c2, q1, q2, q3, ?_⟩
    rw [ancepsref15_Made.l4_eq, ifB_of _ _ (decide_eq_true (by omega))]
    exact Eq.trans r4 q4
theorem Made15_f {s d : List Int} (hs : s.length < 1000) (hd : d.length < 1000000) (hsb : ∀ b ∈ s, 0 ≤ b ∧ b < 256) (hdb : ∀ b ∈ d, 0 ≤ b ∧ b < 256) :
    ∃ xs bs, ancepsref15_Made.f s d = some (xs, (bs, ())) ∧ xs.length = s.length ∧ (∀ x ∈ xs, x ∈ tab16) ∧ Asc 0 bs ∧ (∀ b ∈ bs, 0 ≤ b ∧ b ≤ xs.length) ∧ bs.length ≤ 20 := by
  obtain ⟨xs, h1, h2, h3⟩ := All_l3 s [] [] (by simp only [List.nil_append]; omega) hsb rfl (fun _ h => by cases h)
  rw [List.nil_append] at h1 h3
  obtain ⟨bs, h4, h5, h6, h7⟩ := Made15_l4 s d xs (by omega) hd hdb (xs.length + 1) 0 [] (by omega) trivial (fun _ h => by cases h) (by simp)
  refine ⟨xs, bs, ?_, h1, h2, h4, h5, h6⟩
  rw [ancepsref15_Made.f_eq, ancepsref11_All.f_eq]
  have h3 : ancepsref11_All.l3 s 0 [] = some (xs, ()) := h3
  rw [h3]; exact h7
theorem divL_err {bs : List Int} (ha : Asc 0 bs) (hb : ∀ b ∈ bs, 0 ≤ b ∧ b ≤ 1000) (xs : List Snd) (hx : ∀ x ∈ xs, sval x.1 x.2.1 x.2.2 = 0) (hxl : xs.length < 1000) :
    ∀ (k : Nat) (W R : List Snd) (v : Snd) (fr : Int), R.length ≤ k → xs = W ++ v :: R →
      (divL xs bs fr (((W.length : Nat) : Int) :: nucL R (W.length + 1))).2 = 0 ∨ (divL xs bs fr (((W.length : Nat) : Int) :: nucL R (W.length + 1))).2 = 3 := by
  intro k
  induction k with
  | zero =>
    intro W R v fr hk hxs
    have hR : R = [] := List.length_eq_zero_iff.1 (by omega)
    subst hR
    exact .inl rfl
  | succ k ih =>
    intro W R v fr hk hxs
    cases hR : nucL R (W.length + 1) with
    | nil => exact .inl rfl
    | cons m r =>
      obtain ⟨c, v', R', h1, h2, h3, h4, h5⟩ := nuc_cons hR
      have hxl2 : xs.length = W.length + 1 + c.length + 1 + R'.length := by rw [hxs, h1]; simp only [List.length_append, List.length_cons]; omega
      have hseg : seg xs ((W.length : Nat) : Int) m = c := by
        unfold seg
        have e1 : m.toNat = (W ++ v :: c).length := by rw [h4]; simp only [List.length_append, List.length_cons]; omega
        have e2 : (((W.length : Nat) : Int) + 1).toNat = (W ++ [v]).length := by simp only [List.length_append, List.length_singleton]; omega
        have e3 : xs = (W ++ v :: c) ++ v' :: R' := by rw [hxs, h1]; simp
        rw [e1, e2, e3, List.take_left]
        have e4 : W ++ v :: c = (W ++ [v]) ++ c := by simp
        rw [e4, List.drop_left]
      simp only [divL, hseg]
      have hcs : ∀ x ∈ c, sval x.1 x.2.1 x.2.2 = 0 := fun x hx' => hx x (by rw [hxs, h1]; simp [hx'])
      rcases valid_seg (c := c) (n := ((W.length : Nat) : Int)) (m := m) (by omega) (by rw [h4]; omega) ha hb hcs h2 with hv | hv
      · rw [hv]
        simp only [bne_self_eq_false, cond_false]
        have hW' : (W ++ v :: c).length = W.length + 1 + c.length := by simp only [List.length_append, List.length_cons]; omega
        have := ih (W ++ v :: c) R' v' (IntKind.i64.wrap (IntKind.i64.wrap (((W.length : Nat) : Int) + 1) + coda c (betB ((W.length : Nat) : Int) m bs))) (by rw [h1] at hk; simp only [List.length_append, List.length_cons] at hk; omega) (by rw [hxs, h1]; simp)
        rw [hW', ← h4, ← h5] at this
        generalize divL xs bs _ (m :: r) = D at this ⊢
        obtain ⟨l, e⟩ := D
        simp only at this ⊢
        cases hee : (e != 0)
        · exact .inl rfl
        · exact this
      · rw [hv]; exact .inr rfl
theorem divL_ok_len (xs : List Snd) (bs : List Int) : ∀ (N : List Int) (fr : Int), (divL xs bs fr N).2 = 0 → (divL xs bs fr N).1.length = N.length
  | [], _, _ => rfl
  | [n], _, _ => rfl
  | n :: m :: r, fr, h => by
    have ih := divL_ok_len xs bs (m :: r) (IntKind.i64.wrap (IntKind.i64.wrap (n + 1) + coda (seg xs n m) (betB n m bs)))
    simp only [divL] at h ⊢
    generalize divL xs bs _ (m :: r) = D at ih h ⊢
    obtain ⟨l, e⟩ := D
    simp only at ih h ⊢
    cases hv : (valid (seg xs n m) (betB n m bs) != 0)
    · rw [hv] at h
      simp only [cond_false] at h ⊢
      cases he : (e != 0)
      · have he' : e = 0 := by simpa using he
        simp only [cond_false, List.length_cons, ih he']
      · rw [he] at h; simp only [cond_true] at h
        rw [h] at he; cases he
    · rw [hv] at h
      simp only [cond_true] at h
      rw [h] at hv; cases hv
theorem covers_law {s d : List Int} (hsb : ∀ b ∈ s, 0 ≤ b ∧ b < 256) (hdb : ∀ b ∈ d, 0 ≤ b ∧ b < 256) : ancepslaw15_SyllableCovers.f s d = some (true, ()) := by
  rw [ancepslaw15_SyllableCovers.f_eq, awake_f]
  simp only [bindD_some, Bool.not_true, ifB_false]
  cases h1 : decide (((s.length : Nat) : Int) > 60)
  · cases h2 : decide (((d.length : Nat) : Int) > 20)
    · have h1 := of_decide_eq_false h1; have h2 := of_decide_eq_false h2
      obtain ⟨xs, bs, hm, hl, ht, ha, hb, hbl⟩ := Made15_f (s := s) (d := d) (by omega) (by omega) hsb hdb
      have hx : ∀ x ∈ xs, sval x.1 x.2.1 x.2.2 = 0 := fun x h => tab16_ok (ht x h)
      have hv : valid15 xs bs = 0 := by
        unfold valid15
        rw [decide_eq_false (by omega), decide_eq_false (by omega)]
        simp only [cond_false]
        rw [vB_of ha hb]
        have : ∀ l : List Snd, (∀ x ∈ l, sval x.1 x.2.1 x.2.2 = 0) → vL 0 l = 0 := by
          intro l
          induction l with
          | nil => intro _; rfl
          | cons x l ih => intro h; simp only [vL, h x (by simp)]; exact ih fun y hy => h y (by simp [hy])
        exact this xs hx
      rw [hm]
      simp only [bindD_some, ifB_false]
      rw [Divide_f (by omega) (by omega), refNuclei_f (by omega)]
      simp only [bindD_some]
      unfold dv
      rw [hv]
      simp only [bne_self_eq_false, cond_false]
      cases hN : nucL xs 0 with
      | nil => rfl
      | cons n r =>
        obtain ⟨c, v, R, c1, c2, c3, c4, c5⟩ := nuc_cons hN
        rw [Nat.zero_add] at c4 c5
        have hb' : ∀ b ∈ bs, 0 ≤ b ∧ b ≤ 1000 := fun b h => by have := hb b h; omega
        have herr := divL_err ha hb' xs hx (by omega) R.length c R v 0 (Nat.le_refl _) c1
        rw [← c4, ← c5] at herr
        simp only
        rcases herr with h0 | h3
        · have hlen := divL_ok_len xs bs (n :: r) 0 h0
          have hnl := nuc_len xs 0
          rw [hN] at hnl
          have hlb : (divL xs bs 0 (n :: r)).1.length < 1000 := by rw [hlen]; omega
          rw [h0]
          simp only [bne_self_eq_false, cond_false, ifB_false, hlen]
          rw [ancepslaw15_SyllableCovers.l12_eq, ← ancepslaw15_SyllableCovers.l12_1_eq]
          have := Covers_main ha hb' xs (n :: r) (divL xs bs 0 (n :: r)).1 hx (by omega) hlb R.length [] c R v [] [] (Nat.le_refl _) c2 c3 c1
            (by simp only [List.length_nil, Nat.zero_add, List.nil_append]; rw [← c4, ← c5]) (by simp only [List.length_nil, Nat.zero_add]; rw [← c4, ← c5]; exact h0) (by simp only [List.length_nil, Nat.zero_add, List.nil_append]; rw [← c4, ← c5]; rfl) rfl
          rw [hlen] at this
          exact this
        · rw [h3]; rfl
    · rfl
  · rfl
end Go.Proofs.C15
