/- Plain words for the chapter of clusters. -/
import Derived.Test.YtclcobhnoliknaaC15B
import Derived.Test.YtclcobhnoliknaaMachine4
set_option linter.unusedVariables false
set_option linter.unusedSimpArgs false
namespace Go.Proofs.C15
open Go Go.Proofs.R
abbrev Snd := Int × (Int × ByteArray)

theorem lt_at {α : Type} (p : List α) (x : α) (s : List α) : decide (((List.length p : Nat) : Int) < ((List.length (p ++ x :: s) : Nat) : Int)) = true := by
  apply decide_eq_true; simp only [List.length_append, List.length_cons]; omega
theorem lt_end {α : Type} (p : List α) : decide (((List.length p : Nat) : Int) < ((List.length (p ++ []) : Nat) : Int)) = false := by
  apply decide_eq_false; simp
theorem w_at {α : Type} {p : List α} {x : α} {s : List α} (h : (p ++ x :: s).length < 4611686018427387904) : IntKind.i64.wrap (((List.length p : Nat) : Int) + 1) = ((List.length (p ++ [x]) : Nat) : Int) := by
  simp only [List.length_append, List.length_cons] at h
  rw [w64_succ (by omega)]; simp
theorem w_pre {α : Type} (p : List α) (x : α) (h : p.length < 4611686018427387903) : IntKind.i64.wrap (((List.length p : Nat) : Int) + 1) = ((List.length (p ++ [x]) : Nat) : Int) := by
  rw [w64_succ (by omega)]; simp
theorem grow_one {α β : Type} (l : List α) {x : β} (h : l.length < 4294967296) : grow (l.length + [x].length) = some () := grow_ok (by simp only [List.length_singleton]; omega)
theorem app_at {α : Type} (p : List α) (x : α) (s : List α) : p ++ x :: s = (p ++ [x]) ++ s := by simp

def wr (c : Int) : Bool := (decide (c ≥ 97) && decide (c ≤ 122)) || (decide (c ≥ 48) && decide (c ≤ 57)) || c == 95 || c == 94 || c == 39
theorem written_f (c : Int) : sound_written.f c = some (wr c, ()) := by
  rw [sound_written.f_eq]; unfold wr
  generalize decide (c ≥ 97) = a1; generalize decide (c ≤ 122) = a2; generalize decide (c ≥ 48) = a3; generalize decide (c ≤ 57) = a4
  generalize (c == 95) = a5; generalize (c == 94) = a6; generalize (c == 39) = a7
  cases a1 <;> cases a2 <;> cases a3 <;> cases a4 <;> cases a5 <;> cases a6 <;> rfl
theorem letter_f (c : Int) : ancepsref11_letter.f c = some (wr c, ()) := by
  rw [ancepsref11_letter.f_eq]; unfold wr
  generalize decide (c ≥ 97) = a1; generalize decide (c ≤ 122) = a2; generalize decide (c ≥ 48) = a3; generalize decide (c ≤ 57) = a4
  generalize (c == 95) = a5; generalize (c == 94) = a6; generalize (c == 39) = a7
  cases a1 <;> cases a2 <;> cases a3 <;> cases a4 <;> cases a5 <;> cases a6 <;> rfl
theorem wr_hi {c : Int} (h : 128 ≤ c) : wr c = false := by
  unfold wr
  rw [decide_eq_false (show ¬ c ≤ 122 by omega), decide_eq_false (show ¬ c ≤ 57 by omega)]
  rw [beq_eq_false_iff_ne.2 (show c ≠ 95 by omega), beq_eq_false_iff_ne.2 (show c ≠ 94 by omega), beq_eq_false_iff_ne.2 (show c ≠ 39 by omega)]
  simp

/-- the bytes from a place on can stand in a text -/
def okFrom (t : ByteArray) : Nat → Nat → Bool
  | 0, _ => true
  | n + 1, i => wr ((t.get! i).toNat : Int) && okFrom t n (i + 1)

theorem rune_lo {t : ByteArray} {i : Nat} (h : (t.get! i).toNat < 128) : Utf8.decode t i = ((t.get! i).toNat, 1) := by
  unfold Utf8.decode; simp only [Nat.add_zero]; rw [if_pos h]
theorem rune_hi {t : ByteArray} {i : Nat} (h : ¬ (t.get! i).toNat < 128) : 128 ≤ (Utf8.decode t i).1 := by
  have he : 128 ≤ Utf8.runeError := by decide
  unfold Utf8.decode; simp only [Nat.add_zero]; rw [if_neg h]
  repeat' split
  all_goals first | exact he | omega | (rename_i hc; simp only [Bool.and_eq_true, decide_eq_true_eq] at hc; omega)

theorem indexFunc_l2 (t : ByteArray) : ∀ (n pos : Nat), t.size = pos + n → ∃ i : Int, strings_indexFunc.l2 true t pos = some (i, ()) ∧ decide (i ≥ 0) = !okFrom t n pos
  | 0, pos, h => by
    rw [strings_indexFunc.l2_eq, ifB_not _ _ (decide_eq_false (by omega))]
    exact ⟨-1, rfl, rfl⟩
  | n + 1, pos, h => by
    rw [strings_indexFunc.l2_eq, ifB_of _ _ (decide_eq_true (by omega)), sound_Valid_1.f_eq, written_f]
    simp only [bindD_some, okFrom, runeAt, nextAt]
    by_cases hb : (t.get! pos).toNat < 128
    · rw [rune_lo hb]
      cases hw : wr ((t.get! pos).toNat : Int) with
      | true =>
        obtain ⟨i, h1, h2⟩ := indexFunc_l2 t n (pos + 1) (by omega)
        exact ⟨i, h1, by simpa using h2⟩
      | false => exact ⟨pos, rfl, by simp⟩
    · have := rune_hi hb
      rw [wr_hi (show (128 : Int) ≤ ((Utf8.decode t pos).1 : Int) by omega), wr_hi (show (128 : Int) ≤ ((t.get! pos).toNat : Int) by omega)]
      exact ⟨pos, rfl, by simp⟩

theorem containsFunc_f (t : ByteArray) : strings_ContainsFunc.f t = some (!okFrom t t.size 0, ()) := by
  obtain ⟨i, h1, h2⟩ := indexFunc_l2 t t.size 0 (by omega)
  rw [strings_ContainsFunc.f_eq, strings_IndexFunc.f_eq, strings_indexFunc.f_eq, h1]
  simp only [bindD_some, h2]

theorem strAt_get {t : ByteArray} {i : Nat} (h : i < t.size) : strAt t (i : Int) = some ((t.get! i).toNat : Int) := by
  rw [strAt_nat, getElem?_pos t i h]; simp only [Option.map_some]; congr 2
  show t[i].toNat = (t.get! i).toNat
  congr 1
  show t.data[i] = t.data[i]!
  rw [getElem!_pos]

theorem refValid_l15 (k q : Int) (t : ByteArray) : ∀ (n i : Nat), t.size = i + n → t.size < 1000 → ancepsref11_Valid.l15 (i : Int) k q t = some (bif okFrom t n i then 0 else 2, ())
  | 0, i, h, hs => by
    rw [ancepsref11_Valid.l15_eq, ifB_not _ _ (decide_eq_false (by omega))]; rfl
  | n + 1, i, h, hs => by
    rw [ancepsref11_Valid.l15_eq, ifB_of _ _ (decide_eq_true (by omega)), strAt_get (by omega), bindD_some, letter_f, bindD_some]
    simp only [okFrom]
    rw [w64_succ (by omega), refValid_l15 k q t n (i + 1) (by omega) hs]
    cases wr ((t.get! i).toNat : Int) <;> rfl

def quan (k q : Int) : Bool := bif k == 1 then decide (q ≥ 1) && decide (q ≤ 3) else bif k == 2 then q == 2 else q == 0
def sval (k q : Int) (t : ByteArray) : Int :=
  bif decide (k < 1) then 1 else bif decide (k > 9) then 1 else bif !quan k q then 6 else bif t.toList == (ByteArray.mk (List.toArray ([] : List UInt8))).toList then 7 else bif decide (((t.size : Nat) : Int) > 8) then 3 else bif okFrom t t.size 0 then 0 else 2
def nuc (k : Int) : Bool := k == 1 || k == 2

theorem quantity_f (k q : Int) (t : ByteArray) : sound_quantity.f k q t = some (quan k q, ()) := by
  rw [sound_quantity.f_eq]; unfold quan
  cases (k == 1) <;> cases (k == 2) <;> cases (decide (q ≥ 1)) <;> rfl
theorem svalid_f (k q : Int) (t : ByteArray) : sound_Valid.f k q t = some (sval k q t, ()) := by
  rw [sound_Valid.f_eq, quantity_f, containsFunc_f]; unfold sval
  simp only [bindD_some]
  generalize okFrom t t.size 0 = a; generalize (t.toList == _) = b
  cases decide (k < 1) <;> cases decide (k > 9) <;> cases quan k q <;> cases b <;> cases decide (((t.size : Nat) : Int) > 8) <;> cases a <;> rfl
theorem rvalid_f (k q : Int) (t : ByteArray) : ancepsref11_Valid.f k q t = some (sval k q t, ()) := by
  rw [ancepsref11_Valid.f_eq]; unfold sval
  have h15 : decide (((t.size : Nat) : Int) > 8) = false → ancepsref11_Valid.l15 0 k q t = some (bif okFrom t t.size 0 then 0 else 2, ()) := fun h =>
    refValid_l15 k q t t.size 0 (by omega) (by have := of_decide_eq_false h; omega)
  generalize ancepsref11_Valid.l15 0 k q t = L at h15 ⊢
  generalize okFrom t t.size 0 = a at h15 ⊢; generalize (t.toList == _) = b; unfold quan
  by_cases h1 : k = 1
  · subst h1
    generalize decide (((t.size : Nat) : Int) > 8) = d at h15 ⊢
    generalize decide (q ≥ 1) = e1; generalize decide (q ≤ 3) = e2
    cases d
    · rw [h15 rfl]; cases b <;> cases a <;> cases e1 <;> cases e2 <;> rfl
    · cases b <;> cases a <;> cases e1 <;> cases e2 <;> rfl
  · rw [beq_eq_false_iff_ne.2 h1]
    generalize decide (((t.size : Nat) : Int) > 8) = d at h15 ⊢
    generalize (k == 2) = e1; generalize (q == 2) = e2; generalize (q == 0) = e3
    cases d
    · rw [h15 rfl]; cases decide (k < 1) <;> cases decide (k > 9) <;> cases b <;> cases a <;> cases e1 <;> cases e2 <;> cases e3 <;> rfl
    · cases decide (k < 1) <;> cases decide (k > 9) <;> cases b <;> cases a <;> cases e1 <;> cases e2 <;> cases e3 <;> rfl
theorem nuc_f (k q : Int) (t : ByteArray) : sound_Nucleus.f k q t = some (nuc k, ()) := by
  rw [sound_Nucleus.f_eq]; unfold nuc; cases (k == 1) <;> rfl
theorem rnuc_f (k q : Int) (t : ByteArray) : ancepsref11_Nucleus.f k q t = some (nuc k, ()) := by
  rw [ancepsref11_Nucleus.f_eq]; unfold nuc; cases (k == 1) <;> rfl

/-! validity of a cluster -/
def vB (n : Nat) : Int → List Int → Int
  | _, [] => 0
  | last, b :: l => bif decide (b < 0) then 6 else bif decide (b > (n : Int)) then 6 else bif decide (b < last) then 18 else vB n b l
def vS (z : Int) : List Snd → Int
  | [] => z
  | x :: l => bif sval x.1 x.2.1 x.2.2 != 0 then sval x.1 x.2.1 x.2.2 else bif nuc x.1 then 1 else vS z l
def valid (xs : List Snd) (bs : List Int) : Int :=
  bif decide (((xs.length : Nat) : Int) > 12) then 3 else bif decide (((bs.length : Nat) : Int) > 12) then 3 else vS (vB xs.length 0 bs) xs

theorem Valid_l14 (xs : List Snd) (bs' : List Int) : ∀ (suf pre : List Int) (last : Int), (pre ++ suf).length < 4611686018427387904 →
    cluster_Valid.l14 last (pre ++ suf) ((pre ++ suf).length : Nat) (pre.length : Nat) xs bs' = some (vB xs.length last suf, ())
  | [], pre, last, h => by rw [cluster_Valid.l14_eq, ifB_not _ _ (lt_end pre)]; rfl
  | b :: suf, pre, last, h => by
    rw [cluster_Valid.l14_eq, ifB_of _ _ (lt_at pre b suf), ixAt_at, bindD_some, w_at h, app_at pre b suf, Valid_l14 xs bs' suf (pre ++ [b]) b (by rw [← app_at]; exact h)]
    simp only [vB]
    cases decide (b < 0) <;> cases decide (b > (xs.length : Int)) <;> cases decide (b < last) <;> rfl
theorem refValid_l12 (xs : List Snd) : ∀ (suf pre : List Int) (last : Int), (pre = [] ∧ last = 0) ∨ (∃ p, pre = p ++ [last]) → (pre ++ suf).length < 4611686018427387904 →
    ancepsref14_Valid.l12 (pre.length : Nat) xs (pre ++ suf) = some (vB xs.length last suf, ())
  | [], pre, last, hp, h => by rw [ancepsref14_Valid.l12_eq, ifB_not _ _ (lt_end pre)]; rfl
  | b :: suf, pre, last, hp, h => by
    have ih := refValid_l12 xs suf (pre ++ [b]) b (.inr ⟨pre, rfl⟩) (by rw [← app_at]; exact h)
    rw [ancepsref14_Valid.l12_eq, ifB_of _ _ (lt_at pre b suf), ixAt_at]
    simp only [bindD_some, vB]
    rw [w_at h, app_at pre b suf, ih]
    rcases hp with ⟨rfl, rfl⟩ | ⟨p, rfl⟩
    · rw [ifB_not (b := decide ((([] : List Int).length : Int) > 0)) _ _ (by simp)]
      cases hb : decide (b < 0) <;> cases decide (b > (xs.length : Int)) <;> rfl
    · rw [ifB_of (b := decide (((p ++ [last]).length : Int) > 0)) _ _ (by simp)]
      have hw : IntKind.i64.wrap (((p ++ [last]).length : Int) - 1) = (p.length : Int) := by
        rw [List.length_append, List.length_singleton]
        rw [w64 (by simp only [List.length_append, List.length_cons, List.length_nil] at h; omega)]; omega
      have hl : ixAt (p ++ [last] ++ [b] ++ suf) (p.length : Int) = some last := by
        rw [List.append_assoc, List.append_assoc]; exact ixAt_at p last _
      rw [hw, hl, bindD_some]
      cases decide (b < 0) <;> cases decide (b > (xs.length : Int)) <;> cases decide (b < last) <;> rfl

theorem Valid_l4 (xs' : List Snd) (bs : List Int) (hb : bs.length < 4611686018427387904) : ∀ (suf pre : List Snd), (pre ++ suf).length < 4611686018427387904 →
    cluster_Valid.l4 (pre ++ suf) ((pre ++ suf).length : Nat) (pre.length : Nat) xs' bs = some (vS (vB xs'.length 0 bs) suf, ())
  | [], pre, h => by rw [cluster_Valid.l4_eq, ifB_not _ _ (lt_end pre)]; exact Valid_l14 xs' bs bs [] 0 hb
  | x :: suf, pre, h => by
    rw [cluster_Valid.l4_eq, ifB_of _ _ (lt_at pre x suf), ixAt_at, bindD_some, svalid_f, bindD_some, nuc_f, bindD_some, w_at h, app_at pre x suf, Valid_l4 xs' bs hb suf (pre ++ [x]) (by rw [← app_at]; exact h)]
    simp only [vS]
    cases (sval x.1 x.2.1 x.2.2 != 0) <;> cases nuc x.1 <;> rfl
theorem refValid_l4 (bs : List Int) (hb : bs.length < 4611686018427387904) (n : Nat) : ∀ (suf pre : List Snd), (pre ++ suf).length = n → n < 4611686018427387904 →
    ancepsref14_Valid.l4 (pre.length : Nat) (pre ++ suf) bs = some (vS (vB n 0 bs) suf, ())
  | [], pre, hn, h => by
    rw [ancepsref14_Valid.l4_eq, ifB_not _ _ (lt_end pre)]
    exact (refValid_l12 (pre ++ []) bs [] 0 (.inl ⟨rfl, rfl⟩) hb).trans (by rw [hn]; rfl)
  | x :: suf, pre, hn, h => by
    rw [ancepsref14_Valid.l4_eq, ifB_of _ _ (lt_at pre x suf), ixAt_at]
    simp only [bindD_some]
    rw [rvalid_f, bindD_some, rnuc_f, bindD_some, w_at (p := pre) (x := x) (s := suf) (by omega), app_at pre x suf, refValid_l4 bs hb n suf (pre ++ [x]) (by rw [← app_at]; exact hn) h]
    simp only [vS]
    cases (sval x.1 x.2.1 x.2.2 != 0) <;> cases nuc x.1 <;> rfl

theorem Valid_f (xs : List Snd) (bs : List Int) : cluster_Valid.f xs bs = some (valid xs bs, ()) := by
  rw [cluster_Valid.f_eq]; unfold valid
  cases h1 : decide (((xs.length : Nat) : Int) > 12)
  · cases h2 : decide (((bs.length : Nat) : Int) > 12)
    · have h1 := of_decide_eq_false h1; have h2 := of_decide_eq_false h2
      exact Valid_l4 xs bs (by omega) xs [] (by simp only [List.nil_append]; omega)
    · rfl
  · rfl
theorem refValid_f (xs : List Snd) (bs : List Int) : ancepsref14_Valid.f xs bs = some (valid xs bs, ()) := by
  rw [ancepsref14_Valid.f_eq]; unfold valid
  cases h1 : decide (((xs.length : Nat) : Int) > 12)
  · cases h2 : decide (((bs.length : Nat) : Int) > 12)
    · have h1 := of_decide_eq_false h1; have h2 := of_decide_eq_false h2
      exact refValid_l4 bs (by omega) xs.length xs [] rfl (by omega)
    · rfl
  · rfl
theorem valid_small {xs : List Snd} {bs : List Int} (h : valid xs bs = 0) : xs.length ≤ 12 ∧ bs.length ≤ 12 ∧ vS (vB xs.length 0 bs) xs = 0 := by
  unfold valid at h
  cases h1 : decide (((xs.length : Nat) : Int) > 12)
  · cases h2 : decide (((bs.length : Nat) : Int) > 12)
    · rw [h1, h2] at h
      have h1 := of_decide_eq_false h1; have h2 := of_decide_eq_false h2
      exact ⟨by omega, by omega, h⟩
    · rw [h1, h2] at h; cases h
  · rw [h1] at h; cases h

/-! beats -/
def beat (k : Int) : Int := bif k == 7 then 2 else bif decide (k ≥ 3) && decide (k ≤ 8) then 1 else 0
def beats : List Snd → Int
  | [] => 0
  | x :: l => beat x.1 + beats l
theorem beat_bd (k : Int) : 0 ≤ beat k ∧ beat k ≤ 2 := by
  unfold beat; cases (k == 7) <;> cases (decide (k ≥ 3) && decide (k ≤ 8)) <;> simp
theorem beats_bd : ∀ l : List Snd, 0 ≤ beats l ∧ beats l ≤ 2 * (l.length : Nat)
  | [] => by simp [beats]
  | x :: l => by have := beats_bd l; have := beat_bd x.1; simp only [beats, List.length_cons]; omega
theorem beats_app : ∀ a b : List Snd, beats (a ++ b) = beats a + beats b
  | [], b => by simp [beats]
  | x :: a, b => by simp only [List.cons_append, beats, beats_app a b]; omega
theorem beat_f (k q : Int) (t : ByteArray) : sound_beats.f k q t = some (beat k, ()) := by
  rw [sound_beats.f_eq]; unfold beat; cases (k == 7) <;> cases (decide (k ≥ 3)) <;> cases (decide (k ≤ 8)) <;> rfl
theorem Beats_l3 : ∀ (suf pre : List Snd) (acc : Int), (pre ++ suf).length < 1152921504606846976 → 0 ≤ acc → acc ≤ 2 * (pre.length : Nat) →
    sound_Beats.l3 acc (pre ++ suf) ((pre ++ suf).length : Nat) (pre.length : Nat) = some (acc + beats suf, ())
  | [], pre, acc, h, _, _ => by rw [sound_Beats.l3_eq, ifB_not _ _ (lt_end pre)]; simp [beats]
  | x :: suf, pre, acc, h, h0, h2 => by
    have hb := beat_bd x.1
    have hl : pre.length < 1152921504606846976 := by simp only [List.length_append] at h; omega
    rw [sound_Beats.l3_eq, ifB_of _ _ (lt_at pre x suf), ixAt_at, bindD_some, beat_f, bindD_some, w_pre pre x (by omega), w64 (by omega), app_at pre x suf,
      Beats_l3 suf (pre ++ [x]) _ (by rw [← app_at]; exact h) (by omega) (by simp only [List.length_append, List.length_singleton]; omega)]
    simp only [beats, Int.add_assoc]
theorem Beats_f {xs : List Snd} (h : xs.length < 1152921504606846976) : sound_Beats.f xs = some (beats xs, ()) := by
  rw [sound_Beats.f_eq]; exact (Beats_l3 xs [] 0 h (by simp) (by simp)).trans (by simp)
theorem refBeats_l3 : ∀ (suf pre : List Snd) (acc : Int), (pre ++ suf).length < 1152921504606846976 → 0 ≤ acc → acc ≤ 2 * (pre.length : Nat) →
    ancepsref11_Beats.l3 (pre ++ suf) acc (pre.length : Nat) = some (acc + beats suf, ())
  | [], pre, acc, h, _, _ => by rw [ancepsref11_Beats.l3_eq, ifB_not _ _ (lt_end pre)]; simp [beats]
  | x :: suf, pre, acc, h, h0, h2 => by
    have hb := beat_bd x.1
    have hl : pre.length < 1152921504606846976 := by simp only [List.length_append] at h; omega
    have ih := fun a h0 h2 => refBeats_l3 suf (pre ++ [x]) a (by rw [← app_at]; exact h) h0 h2
    have hl2 : (((pre ++ [x]).length : Nat) : Int) = pre.length + 1 := by simp
    have hl3 : (((pre.length + 1 : Nat)) : Int) = pre.length + 1 := by simp
    rw [ancepsref11_Beats.l3_eq, ifB_of _ _ (lt_at pre x suf), ixAt_at]
    simp only [bindD_some]
    rw [w_pre pre x (by omega), app_at pre x suf, w64 (n := acc + 1) (by omega), w64 (n := acc + 1 + 1) (by omega)]
    simp only [beats]
    by_cases h7 : x.1 = 7
    · rw [h7, ih (acc + 1 + 1) (by omega) (by rw [hl2]; omega)]
      simp [ifB, beat]; omega
    · unfold beat
      rw [beq_eq_false_iff_ne.2 h7]
      cases decide (x.1 ≥ 3) <;> cases decide (x.1 ≤ 8) <;> simp only [ifB_true, ifB_false, Bool.and_self, Bool.and_true, Bool.and_false, Bool.true_and, Bool.false_and, cond_true, cond_false]
      all_goals first | rw [ih acc (by omega) (by rw [hl2]; omega)] | rw [ih (acc + 1) (by omega) (by rw [hl2]; omega)]
      all_goals (congr 2; omega)
theorem refBeats_f {xs : List Snd} (h : xs.length < 1152921504606846976) : ancepsref11_Beats.f xs = some (beats xs, ()) := by
  rw [ancepsref11_Beats.f_eq]; exact (refBeats_l3 xs [] 0 h (by simp) (by simp)).trans (by simp)

/-! the core -/
def coreL : List Snd → Nat → List Int
  | [], _ => []
  | x :: l, i => bif x.1 != 9 then (i : Int) :: coreL l (i + 1) else coreL l (i + 1)
theorem core_len : ∀ (l : List Snd) (i : Nat), (coreL l i).length ≤ l.length
  | [], _ => Nat.le_refl _
  | x :: l, i => by
    have := core_len l (i + 1)
    simp only [coreL]; cases (x.1 != 9) <;> simp only [cond_true, cond_false, List.length_cons] <;> omega
theorem core_l3 : ∀ (suf pre : List Snd) (out : List Int), (pre ++ suf).length < 1000000 → out.length ≤ pre.length →
    cluster_core.l3 (pre ++ suf) ((pre ++ suf).length : Nat) (pre.length : Nat) out = some (out ++ coreL suf pre.length, ())
  | [], pre, out, h, _ => by rw [cluster_core.l3_eq, ifB_not _ _ (lt_end pre)]; simp [coreL]
  | x :: suf, pre, out, h, ho => by
    have hl : pre.length < 1000000 := by simp only [List.length_append] at h; omega
    rw [cluster_core.l3_eq, ifB_of _ _ (lt_at pre x suf), ixAt_at, bindD_some, grow_one out (by omega), bindD_some, w_pre pre x (by omega), app_at pre x suf,
      core_l3 suf (pre ++ [x]) out (by rw [← app_at]; exact h) (by simp only [List.length_append]; omega),
      core_l3 suf (pre ++ [x]) (out ++ [(pre.length : Int)]) (by rw [← app_at]; exact h) (by simp only [List.length_append, List.length_singleton]; omega)]
    simp only [coreL, List.length_append, List.length_singleton]
    cases (x.1 != 9) <;> simp [ifB]
theorem core_f {xs : List Snd} (bs : List Int) (h : xs.length < 1000000) : cluster_core.f xs bs = some (coreL xs 0, ()) := by
  rw [cluster_core.f_eq]; exact core_l3 xs [] [] h (by simp)
theorem refcore_l3 (bs : List Int) : ∀ (suf pre : List Snd) (out : List Int), (pre ++ suf).length < 1000000 → out.length ≤ pre.length →
    ancepsref14_core.l3 (pre.length : Nat) (pre ++ suf) bs out = some (out ++ coreL suf pre.length, ())
  | [], pre, out, h, _ => by rw [ancepsref14_core.l3_eq, ifB_not _ _ (lt_end pre)]; simp [coreL]
  | x :: suf, pre, out, h, ho => by
    have hl : pre.length < 1000000 := by simp only [List.length_append] at h; omega
    rw [ancepsref14_core.l3_eq, ifB_of _ _ (lt_at pre x suf), ixAt_at, bindD_some, grow_one out (by omega), bindD_some, w_pre pre x (by omega), app_at pre x suf,
      refcore_l3 bs suf (pre ++ [x]) out (by rw [← app_at]; exact h) (by simp only [List.length_append]; omega),
      refcore_l3 bs suf (pre ++ [x]) (out ++ [(pre.length : Int)]) (by rw [← app_at]; exact h) (by simp only [List.length_append, List.length_singleton]; omega)]
    simp only [coreL, List.length_append, List.length_singleton]
    cases (x.1 != 9) <;> simp [ifB]
theorem refcore_f {xs : List Snd} (bs : List Int) (h : xs.length < 1000000) : ancepsref14_core.f xs bs = some (coreL xs 0, ()) := by
  rw [ancepsref14_core.f_eq]; exact refcore_l3 bs xs [] [] h (by simp)
end Go.Proofs.C15
