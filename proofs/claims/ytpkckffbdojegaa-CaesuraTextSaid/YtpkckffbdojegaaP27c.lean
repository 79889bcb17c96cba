/- Plain words for the chapter of breaks: Text. -/
import Derived.Test.YtpkckffbdojegaaP27b
set_option linter.unusedVariables false
set_option linter.unusedSimpArgs false
namespace Go.Proofs.C27
open Go Go.Proofs.R
set_option linter.unusedVariables false
set_option maxRecDepth 100000

/-! bytes and numbers -/
theorem ints_len (s : ByteArray) : (ints s).length = s.size := by unfold ints; rw [List.length_map, Array.length_toList]; rfl
theorem ints_app (s t : ByteArray) : ints (s ++ t) = ints s ++ ints t := by
  unfold ints
  have : (s ++ t).data = s.data ++ t.data := by simp
  rw [this, Array.toList_append, List.map_append]
theorem bytes_ints {s : ByteArray} (h : s.size ≤ 4294967296) : bytesOf (ints s) = some s := by
  unfold bytesOf
  rw [if_pos]
  · congr 1
    unfold ints
    cases s with
    | mk d =>
      congr 1
      apply Array.ext'
      simp [Function.comp_def]
  · rw [Bool.and_eq_true]
    constructor
    · rw [List.all_eq_true]
      intro x hx
      unfold ints at hx
      obtain ⟨b, _, rfl⟩ := List.mem_map.1 hx
      have := b.toNat_lt
      rw [Bool.and_eq_true, decide_eq_true_iff, decide_eq_true_iff]; omega
    · rw [ints_len]; exact Nat.ble_eq_true_of_le h

abbrev E0 : ByteArray := ByteArray.mk (List.toArray ([] : List UInt8))
abbrev B1 (c : UInt8) : ByteArray := ByteArray.mk (List.toArray (c :: ([] : List UInt8)))
def sgn (k : Int) : ByteArray := bif k == 1 then B1 124 else B1 58
def ltr (x : Int) : ByteArray := bif x == 1 || x == 3 then B1 45 else B1 117
theorem ltr_ours {x : Int} (h : 0 ≤ x ∧ x ≤ 3) : subS (ByteArray.mk (List.toArray ((117 : UInt8) :: ((45 : UInt8) :: ([] : (List UInt8)))))) (bitsOp BinOp.and IntKind.i64 x (1 : Int)) (IntKind.i64.wrap ((bitsOp BinOp.and IntKind.i64 x (1 : Int)) + (1 : Int))) = some (ltr x) := by
  have : x = 0 ∨ x = 1 ∨ x = 2 ∨ x = 3 := by omega
  rcases this with rfl | rfl | rfl | rfl <;> rfl
theorem ltr_ref {x : Int} (h : 0 ≤ x ∧ x ≤ 3) : subS (ByteArray.mk (List.toArray ((117 : UInt8) :: ((45 : UInt8) :: ([] : (List UInt8)))))) (Int.tmod x (2 : Int)) (IntKind.i64.wrap ((Int.tmod x (2 : Int)) + (1 : Int))) = some (ltr x) := by
  have : x = 0 ∨ x = 1 ∨ x = 2 ∨ x = 3 := by omega
  rcases this with rfl | rfl | rfl | rfl <;> rfl
theorem sgn_ref {k : Int} (h : k = 1 ∨ k = 2) : subS (ByteArray.mk (List.toArray ((124 : UInt8) :: ((58 : UInt8) :: ([] : (List UInt8)))))) (IntKind.i64.wrap (k - (1 : Int))) k = some (sgn k) := by
  rcases h with rfl | rfl <;> rfl
theorem ltr_size (x : Int) : (ltr x).size = 1 := by unfold ltr; cases (x == 1 || x == 3) <;> rfl
theorem sgn_size (x : Int) : (sgn x).size = 1 := by unfold sgn; cases (x == 1) <;> rfl

/-! the error of breaks -/
def tErr (n : Int) : Option Int → List Brk → Int
  | _, [] => 0
  | pv, b :: l => bif decide (b.1 < 1) then 6 else bif decide (b.1 ≥ n) then 6 else bif (match pv with | some q => decide (q ≥ b.1) | none => false) then 18 else bif b.2.2.2.1 == 1 || b.2.2.2.1 == 2 then tErr n (some b.1) l else 1
def AscB : Int → List Brk → Prop
  | _, [] => True
  | lo, b :: l => lo < b.1 ∧ AscB b.1 l
theorem te_zero {n : Int} : ∀ {l : List Brk} {pv : Option Int}, tErr n pv l = 0 → AscB (pv.getD 0) l ∧ ∀ b ∈ l, 1 ≤ b.1 ∧ b.1 < n ∧ (b.2.2.2.1 = 1 ∨ b.2.2.2.1 = 2)
  | [], pv, h => ⟨trivial, by simp⟩
  | b :: l, pv, h => by
    simp only [tErr] at h
    cases h1 : decide (b.1 < 1) with
    | true => rw [h1] at h; cases h
    | false =>
      cases h2 : decide (b.1 ≥ n) with
      | true => rw [h1, h2] at h; cases h
      | false =>
        rw [h1, h2] at h
        simp only [cond_false] at h
        have h1' := of_decide_eq_false h1
        have h2' := of_decide_eq_false h2
        have hk : ∀ q : Bool, (bif q then (18 : Int) else bif b.2.2.2.1 == 1 || b.2.2.2.1 == 2 then tErr n (some b.1) l else 1) = 0 → q = false ∧ (b.2.2.2.1 = 1 ∨ b.2.2.2.1 = 2) ∧ tErr n (some b.1) l = 0 := by
          intro q hq
          cases q with
          | true => cases hq
          | false =>
            simp only [cond_false] at hq
            cases hh : (b.2.2.2.1 == 1 || b.2.2.2.1 == 2) with
            | false => rw [hh] at hq; cases hq
            | true => rw [hh] at hq; exact ⟨rfl, by simpa using hh, hq⟩
        obtain ⟨k1, k2, k3⟩ := hk _ h
        obtain ⟨i1, i2⟩ := te_zero k3
        refine ⟨⟨?_, i1⟩, ?_⟩
        · cases pv with
          | none => simp only [Option.getD_none]; omega
          | some q => have := of_decide_eq_false k1; simp only [Option.getD_some]; omega
        · intro x hx
          rcases List.mem_cons.1 hx with rfl | hx
          · exact ⟨by omega, by omega, k2⟩
          · exact i2 x hx

/-! the signs -/
abbrev MP := List (Int × ByteArray)
abbrev mgetI (i : Int) (m : MP) : ByteArray × Bool := mget (.int .i64) (β := ByteArray) E0 i m
abbrev mputI (k : Int) (v : ByteArray) (m : MP) : MP := mput (.int .i64) (β := ByteArray) k v m
theorem mget_mput (i k : Int) (v : ByteArray) : ∀ m : MP, (mgetI i (mputI k v m)).1 = if i = k then v else (mgetI i m).1
  | [] => by
    simp only [mgetI, mputI, mput, mget, keyEq]
    by_cases h : i = k <;> simp [h]
  | p :: m => by
    have ih := mget_mput i k v m
    simp only [mgetI, mputI, mput, mget, keyEq] at ih ⊢
    by_cases h1 : k = p.1
    · subst h1
      by_cases h : i = p.1 <;> simp [mget, keyEq, h]
    · by_cases h : i = p.1
      · have : ¬ i = k := fun q => h1 (q ▸ h)
        subst h
        simp [mget, keyEq, h1, Ne.symm h1]
      · simp [mget, keyEq, h1, h, ih]
def mpf : MP → List Brk → MP
  | m, [] => m
  | m, b :: l => mpf (mputI b.1 (sgn b.2.2.2.1) m) l
def sgL : List Brk → Int → List Int
  | [], _ => []
  | b :: l, i => (bif b.1 == i then ints (sgn b.2.2.2.1) else []) ++ sgL l i
theorem sgL_none : ∀ (l : List Brk) (i : Int), (∀ b ∈ l, b.1 ≠ i) → sgL l i = []
  | [], _, _ => rfl
  | b :: l, i, h => by
    simp only [sgL]; rw [beq_eq_false_iff_ne.2 (h b (by simp)), sgL_none l i fun x hx => h x (by simp [hx])]; rfl
theorem sgL_len : ∀ (l : List Brk) (i : Int), (sgL l i).length ≤ l.length
  | [], _ => by simp [sgL]
  | b :: l, i => by
    have := sgL_len l i
    simp only [sgL, List.length_append, List.length_cons]
    cases (b.1 == i) <;> simp [ints_len, sgn_size] <;> omega
theorem asc_gt : ∀ {l : List Brk} {lo : Int}, AscB lo l → ∀ b ∈ l, lo < b.1
  | [], _, _, b, hb => by cases hb
  | x :: l, lo, h, b, hb => by
    rcases List.mem_cons.1 hb with rfl | hb
    · exact h.1
    · have := asc_gt h.2 b hb; have := h.1; omega
theorem mpf_get (i : Int) : ∀ (l : List Brk) (m : MP) (lo : Int), AscB lo l → ints (mgetI i (mpf m l)).1 = bif l.any (fun b => b.1 == i) then sgL l i else ints (mgetI i m).1
  | [], m, lo, h => by simp [mpf]
  | b :: l, m, lo, h => by
    simp only [mpf]
    rw [mpf_get i l _ b.1 h.2, mget_mput]
    simp only [List.any_cons, sgL]
    by_cases hb : b.1 = i
    · have hno : ∀ x ∈ l, x.1 ≠ i := fun x hx q => by have := asc_gt h.2 x hx; omega
      have ha : l.any (fun b => b.1 == i) = false := List.any_eq_false.2 fun x hx => by simp [hno x hx]
      rw [ha, sgL_none l i hno, if_pos hb.symm, beq_iff_eq.2 hb]; simp
    · rw [if_neg (Ne.symm hb), beq_eq_false_iff_ne.2 hb]; simp
theorem mpf_sg {bs : List Brk} {lo : Int} (h : AscB lo bs) (i : Int) : ints (mgetI i (mpf [] bs)).1 = sgL bs i := by
  rw [mpf_get i bs [] lo h]
  cases ha : bs.any (fun b => b.1 == i) with
  | true => rfl
  | false =>
    rw [sgL_none bs i fun b hb q => by have := List.any_eq_false.1 ha b hb; simp [q] at this]
    rfl

/-! the walks over breaks -/
theorem prev_ix {p : List Brk} {last b : Brk} {s : List Brk} (h : (p ++ [last] ++ b :: s).length < 1000000) : ixAt (p ++ [last] ++ b :: s) (IntKind.i64.wrap ((((p ++ [last]).length : Nat) : Int) - 1)) = some last := by
  have : p.length < 1000000 := by simp only [List.length_append] at h; omega
  rw [w64 (by simp only [List.length_append, List.length_singleton]; omega), show ((((p ++ [last]).length : Nat) : Int) - 1) = ((p.length : Nat) : Int) by simp, List.append_assoc]
  exact ixAt_at p last _
theorem Text_l6 (xs : List Int) : ∀ (suf pre : List Brk) (pv : Option Int) (m : MP), (pre = [] ∧ pv = none) ∨ (∃ p last, pre = p ++ [last] ∧ pv = some last.1) → (pre ++ suf).length < 1000000 →
    caesura_Text.l6 xs (pre ++ suf) (pre ++ suf) ((pre ++ suf).length : Nat) (pre.length : Nat) m =
      bif tErr (xs.length : Nat) pv suf == 0 then caesura_Text.l20 xs (xs.length : Nat) 0 (mpf m suf) [] else some (E0, (tErr (xs.length : Nat) pv suf, ()))
  | [], pre, pv, m, hp, h => by rw [caesura_Text.l6_eq, ifB_not _ _ (lt_end pre)]; rfl
  | b :: suf, pre, pv, m, hp, h => by
    have hl : pre.length < 1000000 := by simp only [List.length_append] at h; omega
    have h' : (pre ++ [b] ++ suf).length < 1000000 := by rw [← app_at]; exact h
    have ih := fun m => Text_l6 xs suf (pre ++ [b]) (some b.1) m (.inr ⟨pre, b, rfl, rfl⟩) h'
    rw [caesura_Text.l6_eq, ifB_of _ _ (lt_at pre b suf), ixAt_at, bindD_some, w_at (p := pre) (x := b) (s := suf) (by omega)]
    rcases hp with ⟨rfl, rfl⟩ | ⟨p, last, rfl, rfl⟩
    · rw [ifB_not (b := decide ((([] : List Brk).length : Int) > 0)) _ _ (by simp), app_at [] b suf, ih, ih]
      simp only [tErr, mpf, sgn]
      cases decide (b.1 < 1) with
      | true => rfl
      | false =>
        cases decide (b.1 ≥ ((xs.length : Nat) : Int)) with
        | true => rfl
        | false =>
          simp only [ifB_false, cond_false]
          cases h1 : (b.2.2.2.1 == 1) with
          | true => rfl
          | false => cases h2 : (b.2.2.2.1 == 2) <;> rfl
    · rw [ifB_of (b := decide ((((p ++ [last]).length : Nat) : Int) > 0)) _ _ (decide_eq_true (by simp)), prev_ix h, bindD_some, app_at (p ++ [last]) b suf, ih, ih]
      simp only [tErr, mpf, sgn]
      cases decide (b.1 < 1) with
      | true => rfl
      | false =>
        cases decide (b.1 ≥ ((xs.length : Nat) : Int)) with
        | true => rfl
        | false =>
          simp only [ifB_false, cond_false]
          cases decide (last.1 ≥ b.1) with
          | true => rfl
          | false =>
            simp only [ifB_false, cond_false]
            cases h1 : (b.2.2.2.1 == 1) with
            | true => rfl
            | false => cases h2 : (b.2.2.2.1 == 2) <;> rfl
theorem refText_l5 (xs : List Int) : ∀ (suf pre : List Brk) (pv : Option Int), (pre = [] ∧ pv = none) ∨ (∃ p last, pre = p ++ [last] ∧ pv = some last.1) → (pre ++ suf).length < 1000000 →
    ancepsref27_Text.l5 xs (pre ++ suf) (pre.length : Nat) =
      bif tErr (xs.length : Nat) pv suf == 0 then ancepsref27_Text.l15 xs (pre ++ suf) E0 0 else some (E0, (tErr (xs.length : Nat) pv suf, ()))
  | [], pre, pv, hp, h => by rw [ancepsref27_Text.l5_eq, ifB_not _ _ (lt_end pre)]; rfl
  | b :: suf, pre, pv, hp, h => by
    have hl : pre.length < 1000000 := by simp only [List.length_append] at h; omega
    have h' : (pre ++ [b] ++ suf).length < 1000000 := by rw [← app_at]; exact h
    have ih := refText_l5 xs suf (pre ++ [b]) (some b.1) (.inr ⟨pre, b, rfl, rfl⟩) h'
    rw [ancepsref27_Text.l5_eq, ifB_of _ _ (lt_at pre b suf), ixAt_at]
    simp only [bindD_some]
    rw [w_at (p := pre) (x := b) (s := suf) (by omega)]
    rcases hp with ⟨rfl, rfl⟩ | ⟨p, last, rfl, rfl⟩
    · rw [ifB_not (b := decide ((([] : List Brk).length : Int) > 0)) _ _ (by simp), app_at [] b suf, ih]
      simp only [tErr]
      cases decide (b.1 < 1) with
      | true => rfl
      | false =>
        cases decide (b.1 ≥ ((xs.length : Nat) : Int)) with
        | true => rfl
        | false =>
          simp only [ifB_false, cond_false, bne]
          cases h1 : (b.2.2.2.1 == 1) with
          | true => rfl
          | false => cases h2 : (b.2.2.2.1 == 2) <;> rfl
    · rw [ifB_of (b := decide ((((p ++ [last]).length : Nat) : Int) > 0)) _ _ (decide_eq_true (by simp)), prev_ix h, bindD_some, app_at (p ++ [last]) b suf, ih]
      simp only [tErr]
      cases decide (b.1 < 1) with
      | true => rfl
      | false =>
        cases decide (b.1 ≥ ((xs.length : Nat) : Int)) with
        | true => rfl
        | false =>
          simp only [ifB_false, cond_false, bne]
          rw [show decide (b.1 ≤ last.1) = decide (last.1 ≥ b.1) from rfl]
          cases decide (last.1 ≥ b.1) with
          | true => rfl
          | false =>
            simp only [ifB_false, cond_false]
            cases h1 : (b.2.2.2.1 == 1) with
            | true => rfl
            | false => cases h2 : (b.2.2.2.1 == 2) <;> rfl

/-! the walks over letters -/
def ourT (bs : List Brk) : List Int → Nat → List Int
  | [], _ => []
  | x :: s, i => ints (ltr x) ++ (sgL bs ((i + 1 : Nat) : Int) ++ ourT bs s (i + 1))
def refT (bs : List Brk) : List Int → Nat → List Int
  | [], _ => []
  | x :: s, i => sgL bs (i : Nat) ++ (ints (ltr x) ++ refT bs s (i + 1))
theorem our_ref (bs : List Brk) : ∀ (s : List Int) (i : Nat), sgL bs (i : Nat) ++ ourT bs s i = refT bs s i ++ sgL bs ((i + s.length : Nat) : Int)
  | [], i => by simp [ourT, refT]
  | x :: s, i => by
    have ih := our_ref bs s (i + 1)
    simp only [ourT, refT, List.append_assoc, List.length_cons]
    rw [ih, show i + 1 + s.length = i + (s.length + 1) by omega]
theorem ourT_len (bs : List Brk) : ∀ (s : List Int) (i : Nat), (ourT bs s i).length ≤ (bs.length + 1) * s.length
  | [], i => by simp [ourT]
  | x :: s, i => by
    have ih := ourT_len bs s (i + 1)
    have := sgL_len bs ((i + 1 : Nat) : Int)
    simp only [ourT, List.length_append, List.length_cons, ints_len, ltr_size, Nat.mul_add, Nat.mul_one]
    omega
theorem Text_l20_1 {bs : List Brk} (hb : bs.length ≤ 60) (M : MP) (hM : ∀ i, ints (mgetI i M).1 = sgL bs i) : ∀ (suf pre : List Int) (out : List Int), (pre ++ suf).length ≤ 1000 → (∀ x ∈ suf, 0 ≤ x ∧ x ≤ 3) → out.length ≤ 100 * pre.length →
    caesura_Text.l20_1 (pre ++ suf) ((pre ++ suf).length : Nat) (pre.length : Nat) M out = bindD (bytesOf (out ++ ourT bs suf pre.length)) fun t => some (t, (0, ()))
  | [], pre, out, h, hx, ho => by rw [caesura_Text.l20_1_eq, ifB_not _ _ (lt_end pre)]; simp [ourT]
  | x :: suf, pre, out, h, hx, ho => by
    have hl : pre.length ≤ 1000 := by simp only [List.length_append] at h; omega
    have h' : (pre ++ [x] ++ suf).length ≤ 1000 := by rw [← app_at]; exact h
    have hsg := hM ((pre.length + 1 : Nat) : Int)
    have hsz : (mgetI ((pre.length + 1 : Nat) : Int) M).1.size ≤ 60 := by rw [← ints_len, hsg]; exact Nat.le_trans (sgL_len _ _) hb
    have hw : IntKind.i64.wrap (((pre.length : Nat) : Int) + 1) = ((pre.length + 1 : Nat) : Int) := w64_succ (by omega)
    have hin : ints (ltr x ++ (mgetI ((pre.length + 1 : Nat) : Int) M).1) = ints (ltr x) ++ sgL bs ((pre.length + 1 : Nat) : Int) := by rw [ints_app, hsg]
    have hln : (ints (ltr x) ++ sgL bs ((pre.length + 1 : Nat) : Int)).length ≤ 61 := by rw [← hsg, List.length_append, ints_len, ints_len, ltr_size]; omega
    have ih := Text_l20_1 hb M hM suf (pre ++ [x]) (out ++ (ints (ltr x) ++ sgL bs ((pre.length + 1 : Nat) : Int))) h' (fun y hy => hx y (by simp [hy])) (by rw [List.length_append, show (pre ++ [x]).length = pre.length + 1 from by simp]; omega)
    rw [caesura_Text.l20_1_eq, ifB_of _ _ (lt_at pre x suf), ixAt_at, bindD_some, ltr_ours (hx x (by simp)), bindD_some, hw]
    show bindD (grow ((ltr x).size + (mgetI ((pre.length + 1 : Nat) : Int) M).1.size)) (fun _ => bindD (grow (out.length + (ints (ltr x ++ (mgetI ((pre.length + 1 : Nat) : Int) M).1)).length)) fun _ => caesura_Text.l20_1 (pre ++ x :: suf) ((pre ++ x :: suf).length : Nat) ((pre.length + 1 : Nat) : Int) M (out ++ ints (ltr x ++ (mgetI ((pre.length + 1 : Nat) : Int) M).1))) = _
    rw [grow_ok (n := (ltr x).size + (mgetI ((pre.length + 1 : Nat) : Int) M).1.size) (by rw [ltr_size]; omega), bindD_some, hin, grow_ok (n := out.length + (ints (ltr x) ++ sgL bs ((pre.length + 1 : Nat) : Int)).length) (by omega), bindD_some]
    have hpl : (pre ++ [x]).length = pre.length + 1 := by simp
    rw [hpl] at ih
    rw [app_at pre x suf, ih]
    simp only [ourT, List.append_assoc]
theorem Text_l20 {bs : List Brk} (hb : bs.length ≤ 60) (M : MP) (hM : ∀ i, ints (mgetI i M).1 = sgL bs i) (xs : List Int) (h : xs.length ≤ 1000) (hx : ∀ x ∈ xs, 0 ≤ x ∧ x ≤ 3) :
    caesura_Text.l20 xs (xs.length : Nat) 0 M [] = bindD (bytesOf (ourT bs xs 0)) fun t => some (t, (0, ())) := by
  cases xs with
  | nil => rw [caesura_Text.l20_eq, ifB_not _ _ (by simp)]; rfl
  | cons x suf =>
    have hsg := hM ((0 + 1 : Nat) : Int)
    have hsz : (mgetI ((0 + 1 : Nat) : Int) M).1.size ≤ 60 := by rw [← ints_len, hsg]; exact Nat.le_trans (sgL_len _ _) hb
    have hin : ints (ltr x ++ (mgetI ((0 + 1 : Nat) : Int) M).1) = ints (ltr x) ++ sgL bs ((0 + 1 : Nat) : Int) := by rw [ints_app, hsg]
    have hln : (ints (ltr x) ++ sgL bs ((0 + 1 : Nat) : Int)).length ≤ 61 := by rw [← hsg, List.length_append, ints_len, ints_len, ltr_size]; omega
    have ih := Text_l20_1 hb M hM suf [x] (ints (ltr x) ++ sgL bs ((0 + 1 : Nat) : Int)) h (fun y hy => hx y (by simp [hy])) (by simp only [List.length_singleton]; omega)
    rw [caesura_Text.l20_eq, ifB_of _ _ (decide_eq_true (by simp only [List.length_cons]; omega)), ixAt_zero, bindD_some, ltr_ours (hx x (by simp)), bindD_some]
    show bindD (grow ((ltr x).size + (mgetI ((0 + 1 : Nat) : Int) M).1.size)) (fun _ => bindD (grow (0 + (ints (ltr x ++ (mgetI ((0 + 1 : Nat) : Int) M).1)).length)) fun _ => caesura_Text.l20_1 (x :: suf) ((x :: suf).length : Nat) ((0 + 1 : Nat) : Int) M ([] ++ ints (ltr x ++ (mgetI ((0 + 1 : Nat) : Int) M).1))) = _
    rw [grow_ok (n := (ltr x).size + (mgetI ((0 + 1 : Nat) : Int) M).1.size) (by rw [ltr_size]; omega), bindD_some, hin, grow_ok (n := 0 + (ints (ltr x) ++ sgL bs ((0 + 1 : Nat) : Int)).length) (by omega), bindD_some, List.nil_append]
    simp only [ourT]
    rw [← List.append_assoc]
    exact ih
theorem refText_l18 (xs : List Int) (i : Int) : ∀ (suf pre : List Brk) (acc : ByteArray), (pre ++ suf).length ≤ 1000 → (∀ b ∈ suf, b.2.2.2.1 = 1 ∨ b.2.2.2.1 = 2) → acc.size ≤ 1000000 + pre.length →
    ∃ t : ByteArray, ints t = ints acc ++ sgL suf i ∧ ancepsref27_Text.l18 xs (pre ++ suf) acc i (pre.length : Nat) = ancepsref27_Text.l18 xs (pre ++ suf) t i ((pre ++ suf).length : Nat)
  | [], pre, acc, h, hx, ho => ⟨acc, by simp [sgL], by rw [List.append_nil]⟩
  | b :: suf, pre, acc, h, hx, ho => by
    have hl : pre.length ≤ 1000 := by simp only [List.length_append] at h; omega
    have h' : (pre ++ [b] ++ suf).length ≤ 1000 := by rw [← app_at]; exact h
    cases hb : (b.1 == i) with
    | true =>
      obtain ⟨t, h1, h2⟩ := refText_l18 xs i suf (pre ++ [b]) (acc ++ sgn b.2.2.2.1) h' (fun y hy => hx y (by simp [hy])) (by rw [ByteArray.size_append, sgn_size]; simp; omega)
      refine ⟨t, by rw [h1, ints_app]; simp only [sgL, hb, cond_true, List.append_assoc], ?_⟩
      rw [ancepsref27_Text.l18_eq, ifB_of _ _ (lt_at pre b suf), ixAt_at]
      simp only [bindD_some, hb, ifB_true]
      rw [sgn_ref (hx b (by simp)), bindD_some, grow_ok (n := acc.size + (sgn b.2.2.2.1).size) (by rw [sgn_size]; omega), bindD_some, w_at (p := pre) (x := b) (s := suf) (by omega), app_at pre b suf, h2]
    | false =>
      obtain ⟨t, h1, h2⟩ := refText_l18 xs i suf (pre ++ [b]) acc h' (fun y hy => hx y (by simp [hy])) (by simp; omega)
      refine ⟨t, by rw [h1]; simp only [sgL, hb, cond_false, List.nil_append], ?_⟩
      rw [ancepsref27_Text.l18_eq, ifB_of _ _ (lt_at pre b suf), ixAt_at]
      simp only [bindD_some, hb, ifB_false]
      rw [w_at (p := pre) (x := b) (s := suf) (by omega), app_at pre b suf, h2]
theorem refText_l15 {bs : List Brk} (hb : bs.length ≤ 60) (hk : ∀ b ∈ bs, b.2.2.2.1 = 1 ∨ b.2.2.2.1 = 2) : ∀ (suf pre : List Int) (acc : ByteArray), (pre ++ suf).length ≤ 1000 → (∀ x ∈ suf, 0 ≤ x ∧ x ≤ 3) → acc.size ≤ 100 * pre.length →
    ∃ t : ByteArray, ints t = ints acc ++ refT bs suf pre.length ∧ ancepsref27_Text.l15 (pre ++ suf) bs acc (pre.length : Nat) = some (t, (0, ()))
  | [], pre, acc, h, hx, ho => ⟨acc, by simp [refT], by rw [ancepsref27_Text.l15_eq, ifB_not _ _ (lt_end pre)]⟩
  | x :: suf, pre, acc, h, hx, ho => by
    have hl : pre.length ≤ 1000 := by simp only [List.length_append] at h; omega
    have h' : (pre ++ [x] ++ suf).length ≤ 1000 := by rw [← app_at]; exact h
    obtain ⟨t, h1, h2⟩ := refText_l18 (pre ++ x :: suf) ((pre.length : Nat) : Int) bs [] acc (by simp only [List.nil_append]; omega) hk (by omega)
    simp only [List.nil_append, List.length_nil] at h2
    have hts : t.size ≤ acc.size + 60 := by rw [← ints_len, h1, List.length_append, ints_len]; have := sgL_len bs ((pre.length : Nat) : Int); omega
    obtain ⟨t', g1, g2⟩ := refText_l15 hb hk suf (pre ++ [x]) (t ++ ltr x) h' (fun y hy => hx y (by simp [hy])) (by rw [ByteArray.size_append, ltr_size]; simp; omega)
    refine ⟨t', by rw [g1, ints_app, h1]; simp only [refT, List.append_assoc, List.length_append, List.length_singleton], ?_⟩
    rw [ancepsref27_Text.l15_eq, ifB_of _ _ (lt_at pre x suf)]
    refine h2.trans ?_
    rw [ancepsref27_Text.l18_eq, ifB_not _ _ (decide_eq_false (by omega)), ixAt_at]
    simp only [bindD_some]
    rw [ltr_ref (hx x (by simp)), bindD_some, grow_ok (n := t.size + (ltr x).size) (by rw [ltr_size]; omega), bindD_some, w_at (p := pre) (x := x) (s := suf) (by omega), app_at pre x suf, g2]
theorem cloneB_f {l : List Brk} (h : l.length ≤ 1000000) : api_Break.f l = some (l, ()) := by
  rw [api_Break.f_eq, grow_ok (by omega)]; rfl
theorem both_text (xs : List Int) {bs : List Brk} (hb : bs.length ≤ 60) : ∃ (t : ByteArray) (e : Int), caesura_Text.f xs bs = some (t, (e, ())) ∧ ancepsref27_Text.f xs bs = some (t, (e, ())) := by
  rw [caesura_Text.f_eq, ancepsref27_Text.f_eq, valid_f, letters_f, bindD_some, bindD_some]
  cases hv : (vl xs != 0) with
  | true => exact ⟨E0, _, rfl, rfl⟩
  | false =>
    have h0 : vl xs = 0 := by simpa using hv
    obtain ⟨v1, v2⟩ := vl_zero h0
    rw [ifB_false, ifB_false]
    have a1 := Text_l6 xs bs [] none [] (.inl ⟨rfl, rfl⟩) (by simp only [List.nil_append]; omega)
    have a2 := refText_l5 xs bs [] none (.inl ⟨rfl, rfl⟩) (by simp only [List.nil_append]; omega)
    simp only [List.nil_append, List.length_nil] at a1 a2
    rw [show ((0 : Nat) : Int) = 0 from rfl] at a1 a2
    rw [a1, a2]
    cases ht : (tErr (xs.length : Nat) none bs == 0) with
    | false => exact ⟨E0, _, rfl, rfl⟩
    | true =>
      have ht' : tErr (xs.length : Nat) none bs = 0 := by simpa using ht
      obtain ⟨t1, t2⟩ := te_zero ht'
      simp only [cond_true]
      obtain ⟨t, g1, g2⟩ := refText_l15 hb (fun b hb => (t2 b hb).2.2) xs [] E0 (by simp only [List.nil_append]; omega) v2 (Nat.zero_le _)
      simp only [List.nil_append, List.length_nil] at g1 g2
      rw [show ((0 : Nat) : Int) = 0 from rfl] at g2
      refine ⟨t, 0, ?_, g2⟩
      rw [Text_l20 hb (mpf [] bs) (mpf_sg t1) xs (by omega) v2]
      have e1 : ourT bs xs 0 = ints t := by
        have := our_ref bs xs 0
        rw [sgL_none bs ((0 : Nat) : Int) fun b hb => by have := (t2 b hb).1; omega, sgL_none bs ((0 + xs.length : Nat) : Int) fun b hb => by have := (t2 b hb).2.1; omega, List.nil_append, List.append_nil] at this
        rw [this, g1]; rfl
      have e2 : t.size ≤ 61 * 40 := by
        rw [← ints_len, ← e1]
        exact Nat.le_trans (ourT_len bs xs 0) (Nat.mul_le_mul (by omega) v1)
      rw [e1, bytes_ints (by omega)]; rfl
theorem text_law (xs : List Int) (bs : List Brk) : ancepslaw27_CaesuraText.f xs bs = some (true, ()) := by
  rw [ancepslaw27_CaesuraText.f_eq, awake_f]; simp only [bindD_some, Bool.not_true, ifB_false]
  cases h : decide (((xs.length : Nat) : Int) > 60) with
  | true => rfl
  | false =>
    cases h2 : decide (((bs.length : Nat) : Int) > 60) with
    | true => rfl
    | false =>
      have h' := of_decide_eq_false h
      have h2' := of_decide_eq_false h2
      obtain ⟨t, e, e1, e2⟩ := both_text xs (bs := bs) (by omega)
      rw [ifB_false, ifB_false, clone_f (by omega), bindD_some, cloneB_f (by omega)]
      simp only [bindD_some, e1, e2]
      rw [beq_self_eq_true, ifB_true, beq_self_eq_true]
end Go.Proofs.C27
