/- Automata with choices: the construction of sets, as both texts do it. -/
import Derived.Test.YtmbloefhgkhoaaaP07d
set_option linter.unusedVariables false
set_option linter.unusedSimpArgs false
namespace Go.Proofs.C07
open Go Go.Proofs.R
open M (lt_at lt_end w_at app_at LLI)
set_option linter.unusedVariables false
set_option linter.unusedSimpArgs false
set_option maxRecDepth 100000

/-! a key for each set -/
def kt (B : LB) : ByteArray := ⟨(B.map fun b => (bif b then (49 : UInt8) else 48)).toArray⟩
def kb (B : LB) : List Int := B.map fun b => bif b then (49 : Int) else 48
theorem map_inj {α β : Type} {f : α → β} (hf : ∀ a b, f a = f b → a = b) : ∀ l m : List α, l.map f = m.map f → l = m
  | [], [], _ => rfl
  | [], _ :: _, h => by cases h
  | _ :: _, [], h => by cases h
  | a :: l, b :: m, h => by
    simp only [List.map_cons, List.cons.injEq] at h
    rw [hf a b h.1, map_inj hf l m h.2]
theorem kt_inj {B C : LB} (h : kt B = kt C) : B = C := by
  unfold kt at h
  have h1 : (B.map fun b => (bif b then (49 : UInt8) else 48)) = C.map fun b => (bif b then (49 : UInt8) else 48) := by
    have := congrArg (fun x : ByteArray => x.data.toList) h
    simpa using this
  exact map_inj (fun a b hab => by cases a <;> cases b <;> first | rfl | exact absurd hab (by decide)) B C h1
theorem kb_bytes (B : LB) (h : B.length ≤ 4294967296) : bytesOf (kb B) = some (kt B) := by
  unfold bytesOf
  have h1 : ((kb B).all (fun n => decide (0 ≤ n) && decide (n < 256)) && Nat.ble (kb B).length 4294967296) = true := by
    rw [Bool.and_eq_true]
    refine ⟨List.all_eq_true.2 ?_, ?_⟩
    · intro x hx
      unfold kb at hx
      rw [List.mem_map] at hx
      obtain ⟨b, _, rfl⟩ := hx
      cases b <;> rfl
    · rw [Nat.ble_eq]; simpa [kb] using h
  rw [if_pos h1]
  congr 1
  unfold kt kb
  rw [List.map_map]
  congr 2
  refine List.map_congr_left fun b _ => ?_
  cases b <;> rfl
theorem key_l3_1 : ∀ (suf pre : LB), (pre ++ suf).length < 1000000 → nondet_set_key.l3_1 (pre ++ suf) ((pre ++ suf).length : Nat) (pre.length : Nat) (kb pre) = some (kt (pre ++ suf), ())
  | [], pre, h => by
    rw [nondet_set_key.l3_1_eq, ifB_not _ _ (lt_end pre), kb_bytes _ (by simp only [List.length_append] at h; omega), List.append_nil]; rfl
  | b :: suf, pre, h => by
    have hl : pre.length < 1000000 := by simp only [List.length_append] at h; omega
    have hk : (kb pre).length = pre.length := by simp [kb]
    have e : ∀ b, kb pre ++ [bif b then (49 : Int) else 48] = kb (pre ++ [b]) := fun b => by simp [kb]
    have ih := key_l3_1 suf (pre ++ [b]) (by rw [← app_at]; exact h)
    rw [nondet_set_key.l3_1_eq, ifB_of _ _ (lt_at pre b suf), ixAt_at, bindD_some, grow_one _ (by omega), bindD_some, grow_one _ (by omega), bindD_some, w_pre pre b (by omega), app_at pre b suf]
    cases b
    · rw [ifB_false]; have := e false; simp only [cond_false] at this; rw [this]; exact ih
    · rw [ifB_true]; have := e true; simp only [cond_true] at this; rw [this]; exact ih
theorem key_l3 : ∀ (B : LB), B.length < 1000000 → nondet_set_key.l3 B (B.length : Nat) 0 [] = some (kt B, ())
  | [], h => by
    rw [nondet_set_key.l3_eq, ifB_not _ _ (by simp), show ([] : List Int) = kb [] from rfl, kb_bytes _ (by simp)]; rfl
  | b :: suf, h => by
    have ih := key_l3_1 suf [b] h
    have hlt := lt_at [] b suf
    have hw := w_pre [] b (by simp)
    rw [List.nil_append, List.length_nil, Int.ofNat_zero] at hlt
    rw [List.nil_append, List.length_nil, Int.ofNat_zero] at hw
    rw [nondet_set_key.l3_eq, ifB_of _ _ hlt, ixAt_zero, bindD_some, grow_one _ (by simp), bindD_some, grow_one _ (by simp), bindD_some, hw]
    cases b
    · rw [ifB_false]; exact ih
    · rw [ifB_true]; exact ih
theorem key_f {B : LB} (h : B.length < 1000000) : nondet_set_key.f B = some (kt B, ()) := by rw [nondet_set_key.f_eq]; exact key_l3 B h

abbrev TS : Ty := .str
theorem mgetS {β : Type} (z : β) (q q' : ByteArray) (v : β) : ∀ m : List (ByteArray × β), mget TS z q' (mput TS q v m) = if q' = q then (v, true) else mget TS z q' m
  | [] => by
    show (bif decide (q' = q) then (v, true) else (z, false)) = _
    by_cases h : q' = q <;> simp [h, mget]
  | p :: m => by
    show mget TS z q' (bif decide (q = p.1) then (p.1, v) :: m else p :: mput TS q v m) = if q' = q then (v, true) else (bif decide (q' = p.1) then (p.2, true) else mget TS z q' m)
    by_cases h1 : q = p.1
    · simp only [h1, decide_true, cond_true]
      show (bif decide (q' = p.1) then (v, true) else mget TS z q' m) = _
      by_cases h2 : q' = p.1 <;> simp [h2]
    · simp only [h1, decide_false, cond_false]
      show (bif decide (q' = p.1) then (p.2, true) else mget TS z q' (mput TS q v m)) = _
      by_cases h2 : q' = p.1
      · have h3 : ¬ q' = q := fun e => h1 (by rw [← e, h2])
        rw [if_neg h3]; simp [h2]
      · simp only [h2, decide_false, cond_false]
        exact mgetS z q q' v m

/-! is a set empty? -/
def hasT (B : LB) : Bool := B.any fun b => b
theorem has_l2 : ∀ (suf pre : LB), (pre ++ suf).length < 1000000 → ∃ k : Int, nondet_set_bool_81.l2 (pre ++ suf) true ((pre ++ suf).length : Nat) (pre.length : Nat) = some (k, ()) ∧ decide (k ≥ 0) = hasT suf
  | [], pre, h => ⟨-1, by rw [nondet_set_bool_81.l2_eq, ifB_not _ _ (lt_end pre)], rfl⟩
  | b :: suf, pre, h => by
    have hl : pre.length < 1000000 := by simp only [List.length_append] at h; omega
    obtain ⟨k, h1, h2⟩ := has_l2 suf (pre ++ [b]) (by rw [← app_at]; exact h)
    rw [nondet_set_bool_81.l2_eq, ifB_of _ _ (lt_at pre b suf), ixAt_at, bindD_some, w_pre pre b (by omega), app_at pre b suf, h1]
    simp only [hasT, List.any_cons]
    cases b
    · exact ⟨k, rfl, by simpa [hasT] using h2⟩
    · exact ⟨_, rfl, by simp⟩
theorem has_f {B : LB} (h : B.length < 1000000) : nondet_set_bool.f B true = some (hasT B, ()) := by
  obtain ⟨k, h1, h2⟩ := has_l2 B [] h
  rw [List.nil_append, List.length_nil, Int.ofNat_zero] at h1
  rw [nondet_set_bool.f_eq, nondet_set_bool_81.f_eq, h1, bindD_some, h2]
theorem hasT_bat {B : LB} {n : Nat} (hB : B.length = n) : hasT B = true ↔ ∃ s : Int, (0 ≤ s ∧ s < (n : Int)) ∧ bat B s = true := by
  unfold hasT
  rw [List.any_eq_true]
  constructor
  · rintro ⟨b, h1, h2⟩
    obtain ⟨k, hk, rfl⟩ := List.getElem_of_mem h1
    exact ⟨k, by omega, by rw [bat_nat, List.getElem?_eq_getElem hk]; exact h2⟩
  · rintro ⟨s, h1, h2⟩
    obtain ⟨k, rfl⟩ : ∃ k : Nat, s = k := ⟨s.toNat, by omega⟩
    rw [bat_nat, List.getElem?_eq_getElem (by omega)] at h2
    exact ⟨_, List.getElem_mem (by omega), h2⟩
/-! the construction -/
open Classical in
noncomputable def dRow (n : Nat) (E : List Ed) (l : LB) : Nat → Nat → List LB → List Int → Option (List Int × List LB)
  | 0, _, fs, row => some (row, fs)
  | f + 1, c, fs, row =>
    if hasT (nxB n E l (c : Int)) = true then
      if nxB n E l (c : Int) ∈ fs then dRow n E l f (c + 1) fs (row ++ [((M.place (nxB n E l (c : Int)) fs : Nat) : Int)])
      else if fs.length = 400 then none else dRow n E l f (c + 1) (fs ++ [nxB n E l (c : Int)]) (row ++ [((fs.length : Nat) : Int)])
    else dRow n E l f (c + 1) fs (row ++ [-1])
noncomputable def dAll (L n : Nat) (E : List Ed) (Ac : List Int) : Nat → Nat → List LB → LLI → LB → Option (List LB × LLI × LB)
  | 0, _, fs, N, A => some (fs, N, A)
  | f + 1, i, fs, N, A => match fs[i]? with
    | none => some (fs, N, A)
    | some l => match dRow n E l L 0 fs [] with
      | none => none
      | some r => dAll L n E Ac f (i + 1) r.2 (N ++ [r.1]) (A ++ [accB Ac l])

structure Sets (n : Nat) (fs : List LB) : Prop where
  nd : fs.Nodup
  len : ∀ B ∈ fs, B.length = n
  n4 : fs.length ≤ 400
theorem Sets.put {n : Nat} {fs : List LB} (h : Sets n fs) {d : LB} (hd : d ∉ fs) (hl : d.length = n) (h4 : fs.length ≠ 400) : Sets n (fs ++ [d]) := by
  refine ⟨List.nodup_append.2 ⟨h.nd, by simp, ?_⟩, ?_, by have := h.n4; simp; omega⟩
  · intro a ha b hb hab
    have : b = d := by simpa using hb
    subst this; subst hab; exact hd ha
  · intro B hB
    rcases List.mem_append.1 hB with hB | hB
    · exact h.len B hB
    · have : B = d := by simpa using hB
      subst this; exact hl
open Classical in
def MapOk (n : Nat) (m : List (ByteArray × Int)) (fs : List LB) : Prop :=
  ∀ B : LB, mget TS (0 : Int) (kt B) m = if B ∈ fs then (((M.place B fs : Nat) : Int), true) else (0, false)
theorem MapOk.put {n : Nat} {m : List (ByteArray × Int)} {fs : List LB} (h : MapOk n m fs) {d : LB} (hd : d ∉ fs) : MapOk n (mput TS (kt d) ((fs.length : Nat) : Int) m) (fs ++ [d]) := by
  intro B
  rw [mgetS]
  by_cases hq : B = d
  · subst hq
    rw [if_pos rfl, if_pos (by simp)]
    have : M.place B (fs ++ [B]) = fs.length := by
      have := M.place_putIn (d := B) (l := fs)
      unfold M.putIn at this
      rw [if_neg hd, M.place_not hd] at this; exact this
    rw [this]
  · rw [if_neg (fun e => hq (kt_inj e)), h B]
    by_cases hm : B ∈ fs
    · rw [if_pos hm, if_pos (by simp [hm]), M.place_app hm]
    · rw [if_neg hm, if_neg (by simp [hm, hq])]

section
variable {L : Int} {n : Nat} {St : List Int} {E : List Ed} {Ac : List Int}

def errD : Int × (Int × (LLI × (LB × (Int × Unit)))) := (0, (0, ([], ([], (3, ())))))
theorem set_row {row : List Int} {f : Nat} (v : Int) : setRow (row ++ List.replicate (f + 1) (0 : Int)) ((row.length : Nat) : Int) v = (row ++ [v]) ++ List.replicate f 0 := by
  unfold setRow
  rw [Int.toNat_natCast, List.replicate_succ, List.append_assoc]
  simp
theorem det_l17 (h : NV L (n : Int) St E Ac) {i : Nat} {l : LB} (hi : i < 4611686018427387904) : ∀ (f c : Nat) (fs : List LB) (m : List (ByteArray × Int)) (row : List Int) (N : LLI) (A : LB), c + f = L.toNat → row.length = c → MapOk n m fs → Sets n fs → fs[i]? = some l → N.length < 1000000 → A.length < 1000000 →
    (dRow n E l f c fs row = none ∧ nondet_Determine.l17 (i : Int) L (c : Int) L (n : Int) St E Ac 0 0 L (n : Int) St E Ac (gr n E) L 0 m fs (row ++ List.replicate f 0) [] [] N A = some errD) ∨
    ∃ r m', dRow n E l f c fs row = some r ∧ MapOk n m' r.2 ∧ Sets n r.2 ∧ (∃ e, r.2 = fs ++ e) ∧
      nondet_Determine.l17 (i : Int) L (c : Int) L (n : Int) St E Ac 0 0 L (n : Int) St E Ac (gr n E) L 0 m fs (row ++ List.replicate f 0) [] [] N A =
        nondet_Determine.l13 ((i + 1 : Nat) : Int) L (n : Int) St E Ac 0 0 L (n : Int) St E Ac (gr n E) L 0 m' r.2 [] [] (N ++ [r.1]) (A ++ [accB Ac l])
  | 0, c, fs, m, row, N, A, hc, hr, hm, hs, hl, hN, hA => by
    have h1 := h.l1
    have hll := hs.len l (List.mem_of_getElem? hl)
    refine .inr ⟨(row, fs), m, rfl, hm, hs, ⟨[], by simp⟩, ?_⟩
    rw [nondet_Determine.l17_eq, ifB_not _ _ (decide_eq_false (by omega)), grow_one _ (by omega), bindD_some, ixAt_nat, hl]
    simp only [bindD_some, List.replicate_zero, List.append_nil]
    rw [gacc_f hll h.ac (by have := h.acn; omega), bindD_some, grow_one _ (by omega), bindD_some, w64_succ (by omega)]
  | f + 1, c, fs, m, row, N, A, hc, hr, hm, hs, hl, hN, hA => by
    have h1 := h.l1
    have h8 := h.l8
    have hll := hs.len l (List.mem_of_getElem? hl)
    have hn := h.nl
    have hd : (nxB n E l (c : Int)).length = n := nxB_len _ _
    have hfl := hs.n4
    have ih := fun fs m v hm hs (hl : fs[i]? = some l) => det_l17 h hi f (c + 1) fs m (row ++ [v]) N A (by omega) (by simp [hr]) hm hs hl hN hA
    have hix : ∀ v : Int, ixAt (row ++ List.replicate (f + 1) (0 : Int)) (c : Int) = some 0 := by
      intro v
      rw [← hr, List.replicate_succ]; exact ixAt_at row 0 _
    have hset : ∀ v : Int, setRow (row ++ List.replicate (f + 1) (0 : Int)) (c : Int) v = (row ++ [v]) ++ List.replicate f 0 := fun v => by rw [← hr]; exact set_row v
    rw [nondet_Determine.l17_eq, ifB_of _ _ (decide_eq_true (by omega)), ixAt_nat, hl]
    simp only [bindD_some]
    rw [step_f hn h.ei h.e hll, bindD_some]
    simp only
    rw [has_f (by omega), bindD_some, hix 0]
    simp only [bindD_some]
    rw [w64_succ (by omega)]
    simp only [hset]
    unfold dRow
    by_cases hh : hasT (nxB n E l (c : Int)) = true
    · rw [if_pos hh, hh, ifB_not _ _ (by rfl), key_f (by omega), bindD_some]
      simp only
      rw [hm (nxB n E l (c : Int))]
      by_cases hmem : nxB n E l (c : Int) ∈ fs
      · rw [if_pos hmem, if_pos hmem, ifB_not _ _ (by rfl)]
        exact ih fs m _ hm hs hl
      · rw [if_neg hmem, if_neg hmem, ifB_of _ _ (by rfl)]
        by_cases h4 : fs.length = 400
        · rw [if_pos h4, ifB_of _ _ (by rw [h4]; rfl)]
          exact .inl ⟨rfl, rfl⟩
        · rw [if_neg h4, ifB_not _ _ (by rw [beq_eq_false_iff_ne]; omega)]
          simp only [bindD_some]
          rw [grow_one _ (by omega), bindD_some]
          have hli : i < fs.length := (List.getElem?_eq_some_iff.1 hl).1
          rcases ih (fs ++ [nxB n E l (c : Int)]) _ ((fs.length : Nat) : Int) (hm.put hmem) (hs.put hmem hd h4) (by rw [List.getElem?_append_left hli]; exact hl) with q | ⟨r, m', q1, q2, q3, ⟨e, q4⟩, q5⟩
          · exact .inl q
          · exact .inr ⟨r, m', q1, q2, q3, ⟨nxB n E l (c : Int) :: e, by rw [q4, List.append_assoc]; rfl⟩, q5⟩
    · rw [if_neg hh]
      have hh' : hasT (nxB n E l (c : Int)) = false := by simpa using hh
      rw [hh', ifB_of _ _ (by rfl)]
      exact ih fs m _ hm hs hl
noncomputable def minV (L S : Int) (N : LLI) (A : LB) : Int × (Int × (LLI × (LB × (Int × Unit)))) :=
  bif M.ok L S N A then (L, (M.canS (M.lang L N A S), (M.canN L (M.lang L N A S), (M.canA L (M.lang L N A S), (0, ()))))) else (0, (0, ([], ([], (1, ())))))
noncomputable def dVal (L : Int) (o : Option (List LB × LLI × LB)) : Int × (Int × (LLI × (LB × (Int × Unit)))) := match o with
  | none => errD
  | some r => minV L 0 r.2.1 r.2.2
theorem det_l13 (h : NV L (n : Int) St E Ac) : ∀ (f i : Nat) (fs : List LB) (m : List (ByteArray × Int)) (N : LLI) (A : LB), MapOk n m fs → Sets n fs → i ≤ fs.length → 400 < i + f → N.length = i → A.length = i →
    nondet_Determine.l13 (i : Int) L (n : Int) St E Ac 0 0 L (n : Int) St E Ac (gr n E) L 0 m fs [] [] N A = some (dVal L (dAll L.toNat n E Ac f i fs N A))
  | 0, i, fs, m, N, A, hm, hs, hi, hf, hN, hA => by have := hs.n4; omega
  | f + 1, i, fs, m, N, A, hm, hs, hi, hf, hN, hA => by
    have h4 := hs.n4
    have h1 := h.l1
    have h8 := h.l8
    rw [nondet_Determine.l13_eq]
    unfold dAll
    cases hx : fs[i]? with
    | none =>
      have : fs.length ≤ i := List.getElem?_eq_none_iff.1 hx
      rw [ifB_not _ _ (decide_eq_false (by omega)), M.minimalF]
      rfl
    | some l =>
      have hil := (List.getElem?_eq_some_iff.1 hx).1
      have hL : mkLen L L = some L.toNat := by
        have := mkLen_ok (n := L.toNat) (by omega)
        rw [Int.toNat_of_nonneg (by omega)] at this; exact this
      rw [ifB_of _ _ (decide_eq_true (by omega)), hL, bindD_some]
      simp only [List.length_replicate]
      rw [Int.toNat_of_nonneg (by omega)]
      rcases det_l17 h (i := i) (l := l) (by omega) L.toNat 0 fs m [] N A (by omega) rfl hm hs hx (by omega) (by omega) with ⟨q1, q2⟩ | ⟨r, m', q1, q2, q3, ⟨e, q4⟩, q5⟩
      · rw [List.nil_append, show ((0 : Nat) : Int) = 0 from rfl] at q2
        rw [q2, q1]; rfl
      · rw [List.nil_append, show ((0 : Nat) : Int) = 0 from rfl] at q5
        rw [q5, q1]
        exact det_l13 h f (i + 1) r.2 m' _ _ q2 q3 (by rw [q4]; simp; omega) (by omega) (by simp [hN]) (by simp [hA])
noncomputable def detR (L S : Int) (St : List Int) (E : List Ed) (Ac : List Int) : Int × (Int × (LLI × (LB × (Int × Unit)))) :=
  bif nok L S St E Ac then (bif St.isEmpty then minV L (-1) [] [] else dVal L (dAll L.toNat S.toNat E Ac 401 0 [st0 S.toNat E St] [] [])) else (0, (0, ([], ([], (1, ())))))
theorem determine_f (L S : Int) (St : List Int) (E : List Ed) (Ac : List Int) (h1 : St.length < 1000000) (h2 : Ac.length < 1000000) : nondet_Determine.f L S St E Ac = some (detR L S St E Ac) := by
  rw [nondet_Determine.f_eq, nvalid_f _ _ _ _ _ h1 h2, bindD_some]; unfold detR
  cases hv : nok L S St E Ac
  · rfl
  · have hN := nv_of hv
    obtain ⟨n, rfl⟩ : ∃ n : Nat, S = n := ⟨S.toNat, by have := hN.s0; omega⟩
    have he := hN.e
    have hn := hN.nl
    rw [ifB_not _ _ (by rfl), open_f hn (by omega) hN.ei, bindD_some]
    simp only
    rw [closure_f hn hN.ei (by omega) hN.st (by have := hN.stn; omega), bindD_some]
    cases St with
    | nil =>
      rw [ifB_of _ _ (by rfl), M.minimalF]; rfl
    | cons s St =>
      rw [ifB_not _ _ (by rw [beq_eq_false_iff_ne]; simp only [List.length_cons]; omega)]
      simp only
      rw [key_f (by rw [clo_len]; omega), bindD_some]
      have hs : Sets n [st0 n E (s :: St)] := ⟨by simp, fun B hB => by rw [List.mem_singleton.1 hB]; exact clo_len _ _ _, by simp⟩
      have hm : MapOk n (mput TS (kt (st0 n E (s :: St))) 0 []) [st0 n E (s :: St)] := by
        have h0 : MapOk n [] [] := fun B => by rw [if_neg (by simp)]; rfl
        exact h0.put (d := st0 n E (s :: St)) (by simp)
      exact det_l13 hN 401 0 _ _ [] [] hm hs (by simp) (by omega) rfl rfl

/-! the reference's -/
end
end Go.Proofs.C07
