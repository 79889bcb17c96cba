/- The evaluator of the model's code over told values, and that what it tells is so: part 3. No condition. -/
import Derived.Test.YtpkckffbdojegaaMachine1
import Derived.Laws.CopyRow
import Derived.WideKeyRuns
import Derived.Maps.RangeRun
set_option linter.unusedVariables false
set_option linter.unusedSimpArgs false
namespace Go.Proofs.R
open Go

mutual
theorem eqLf_eq : ∀ {l m : Lf}, eqLf l m = true → l = m
  | .ref n off, .ref n' off', h => by
    simp only [eqLf, Bool.and_eq_true] at h
    rw [Nat.eq_of_beq_eq_true h.1, Nat.eq_of_beq_eq_true h.2]
  | .clo g cs, .clo g' ds, h => by
    simp only [eqLf, Bool.and_eq_true] at h
    rw [Nat.eq_of_beq_eq_true h.1, eqLfs_eq h.2]
  | .nilp, .nilp, _ => rfl
  | .v _ _, m, h => by cases m <;> cases h
  | .nil _ _, m, h => by cases m <;> cases h
  | .row _, m, h => by cases m <;> cases h
  | .eref _ _ _, m, h => by cases m <;> cases h
  | .view _ _ _, m, h => by cases m <;> cases h
  | .pref _ _, m, h => by cases m <;> cases h
  | .undef, m, h => by cases m <;> cases h
  | .mp _, m, h => by cases m <;> cases h
  | .ref _ _, .v _ _, h => by cases h
  | .ref _ _, .nil _ _, h => by cases h
  | .ref _ _, .row _, h => by cases h
  | .ref _ _, .eref _ _ _, h => by cases h
  | .ref _ _, .view _ _ _, h => by cases h
  | .ref _ _, .pref _ _, h => by cases h
  | .ref _ _, .clo _ _, h => by cases h
  | .ref _ _, .nilp, h => by cases h
  | .ref _ _, .undef, h => by cases h
  | .ref _ _, .mp _, h => by cases h
  | .clo _ _, .v _ _, h => by cases h
  | .clo _ _, .nil _ _, h => by cases h
  | .clo _ _, .row _, h => by cases h
  | .clo _ _, .ref _ _, h => by cases h
  | .clo _ _, .eref _ _ _, h => by cases h
  | .clo _ _, .view _ _ _, h => by cases h
  | .clo _ _, .pref _ _, h => by cases h
  | .clo _ _, .nilp, h => by cases h
  | .clo _ _, .undef, h => by cases h
  | .clo _ _, .mp _, h => by cases h
  | .nilp, .v _ _, h => by cases h
  | .nilp, .nil _ _, h => by cases h
  | .nilp, .row _, h => by cases h
  | .nilp, .ref _ _, h => by cases h
  | .nilp, .eref _ _ _, h => by cases h
  | .nilp, .view _ _ _, h => by cases h
  | .nilp, .pref _ _, h => by cases h
  | .nilp, .clo _ _, h => by cases h
  | .nilp, .undef, h => by cases h
  | .nilp, .mp _, h => by cases h
theorem eqLfs_eq : ∀ {ls ms : List Lf}, eqLfs ls ms = true → ls = ms
  | [], [], _ => rfl
  | [], _ :: _, h => by cases h
  | _ :: _, [], h => by cases h
  | l :: ls, m :: ms, h => by
    simp only [eqLfs, Bool.and_eq_true] at h
    rw [eqLf_eq h.1, eqLfs_eq h.2]
end

/-- what a callee sees of its caller's objects: rows that stay, and the variables under names of its own -/
structure Sees (p q : RP) (lk : Nat → Option AObj) (bs own : List Nat) : Prop where
  S : ∀ b i, p.S b i → q.S b i
  wd : q.w = p.w
  row : ∀ n e t xs fz, lk n = some (.row e t xs fz) → n ∉ own → p.O n = some (.row e t xs fz) ∧ xs.length ≤ (p.β n).2 ∧
    (xs = [] ∨ ∃ b o cs, (p.β n).1 = some (b, o) ∧ RdsOf (Rd q.S q.w t) cs xs ∧ At q.S q.w b o cs)
  box : ∀ j n, bs[j]? = some n → q.β (boxName j) = p.β n ∧ ∃ T ls T' ls', p.O n = some (.box T ls) ∧ q.O (boxName j) = some (.box T' ls')

theorem idxN_at : ∀ {bs : List Nat} {n k j : Nat}, idxN bs n k = some j → k ≤ j ∧ bs[j - k]? = some n
  | [], _, _, _, h => by cases h
  | m :: bs, n, k, j, h => by
    simp only [idxN] at h
    cases hb : Nat.beq m n with
    | true =>
      rw [hb] at h
      simp only [cond_true, Option.some.injEq] at h
      subst h
      have := Nat.eq_of_beq_eq_true hb
      subst this
      exact ⟨Nat.le_refl _, by simp⟩
    | false =>
      rw [hb] at h
      simp only [cond_false] at h
      obtain ⟨h1, h2⟩ := idxN_at h
      refine ⟨by omega, ?_⟩
      rw [show j - k = (j - (k + 1)) + 1 by omega]
      simpa using h2

theorem keepL_rel {p q : RP} {lk : Nat → Option AObj} {bs own : List Nat} (h : Sees p q lk bs own) : ∀ (k : Nat),
    (∀ (l m : Lf) (cs : List Value), keepL lk bs k l = some m → (∀ n ∈ l.names, n ∉ own) → RelL p l cs → RelL q m cs) ∧
    ∀ (ls ms : List Lf) (cs : List Value), keepLs lk bs k ls = some ms → (∀ n ∈ Lf.namesL ls, n ∉ own) → RelLs p ls cs → RelLs q ms cs
  | 0 => ⟨(fun _ _ _ h => by cases h), (fun _ _ _ h => by cases h)⟩
  | k + 1 => by
    obtain ⟨ih1, ih2⟩ := keepL_rel h k
    refine ⟨?_, ?_⟩
    · intro l m cs e hn hr
      cases l with
      | v t x =>
        simp only [keepL, Option.some.injEq] at e; subst e
        exact Rd_mono h.S (fun b i v hs hv => by rw [h.wd]; exact hv) t hr
      | nil e0 t =>
        simp only [keepL, Option.some.injEq] at e; subst e
        exact ⟨none, 0, hr, Nat.le_refl _, .inl rfl⟩
      | row n =>
        simp only [keepL] at e
        split at e
        · rename_i e0 t xs fz hlk
          simp only [Option.some.injEq] at e; subst e
          obtain ⟨hO, hc, hx⟩ := h.row n _ _ _ _ hlk (hn n (by simp [Lf.names]))
          unfold RelL at hr; rw [hO] at hr; simp only at hr
          refine ⟨_, _, hr, hc, hx.imp id ?_⟩
          rintro ⟨b, o, ds, hb, h1, h2⟩
          exact ⟨b, o, ds, by rw [hb]; rfl, h1, h2⟩
        · cases e
      | ref n off =>
        simp only [keepL, Option.bind_eq_some_iff, Option.some.injEq] at e
        obtain ⟨j, h1, rfl⟩ := e
        obtain ⟨_, h2⟩ := idxN_at h1
        obtain ⟨h3, T, ls, T', ls', h4, h5⟩ := h.box j n (by simpa using h2)
        unfold RelL at hr ⊢
        rw [h4] at hr; rw [h5, h3]
        exact hr
      | clo g cs' =>
        simp only [keepL, Option.bind_eq_some_iff, Option.some.injEq] at e
        obtain ⟨ms, h1, rfl⟩ := e
        obtain ⟨vs, e2, h2⟩ := hr
        exact ⟨vs, e2, ih2 _ _ _ h1 (fun n hn' => hn n (by simpa [Lf.names] using hn')) h2⟩
      | nilp =>
        simp only [keepL, Option.some.injEq] at e; subst e
        exact hr
      | eref n i off => simp [keepL] at e
      | view n i off => simp [keepL] at e
      | pref _ _ => simp [keepL] at e
      | undef => simp [keepL] at e
      | mp n => simp [keepL] at e
    · intro ls ms cs e hn hr
      cases ls with
      | nil =>
        simp only [keepLs, Option.some.injEq] at e; subst e
        exact hr
      | cons l ls =>
        simp only [keepLs, Option.bind_eq_some_iff, Option.some.injEq] at e
        obtain ⟨m, h1, ms', h2, rfl⟩ := e
        obtain ⟨c, d, rfl, h3, h4⟩ := hr
        exact ⟨c, d, rfl, ih1 _ _ _ h1 (fun n hn' => hn n (List.mem_append_left _ hn')) h3, ih2 _ _ _ h2 (fun n hn' => hn n (List.mem_append_right _ hn')) h4⟩

theorem keepAVs_rel {p q : RP} {lk : Nat → Option AObj} {bs own : List Nat} (h : Sees p q lk bs own) : ∀ {as ds : List AV} {vs : List Value}, keepAVs lk bs as = some ds → (∀ n ∈ as.flatMap AV.names, n ∉ own) → RelAVs p as vs → RelAVs q ds vs
  | [], ds, vs, e, _, hr => by simp only [keepAVs, Option.some.injEq] at e; subst e; exact hr
  | a :: as, ds, _, e, hn, ⟨v, r, e1, h1, h2⟩ => by
    subst e1
    simp only [keepAVs, Option.bind_eq_some_iff, Option.some.injEq] at e
    obtain ⟨b, h3, cs, h4, rfl⟩ := e
    refine ⟨v, r, rfl, ?_, keepAVs_rel h h4 (fun n hn' => hn n (by rw [List.flatMap_cons]; exact List.mem_append_right _ hn')) h2⟩
    have hna : ∀ n ∈ a.names, n ∉ own := fun n hn' => hn n (by rw [List.flatMap_cons]; exact List.mem_append_left _ hn')
    cases a with
    | one l =>
      simp only [keepAV, Option.bind_eq_some_iff, Option.some.injEq] at h3
      obtain ⟨m, h5, rfl⟩ := h3
      rcases h1 with rfl | h1
      · simp [keepL] at h5
      · exact .inr ((keepL_rel h 64).1 _ _ _ h5 hna h1)
    | agg ls =>
      simp only [keepAV, Option.bind_eq_some_iff, Option.some.injEq] at h3
      obtain ⟨ms, h5, rfl⟩ := h3
      obtain ⟨c, e2, h6⟩ := h1
      exact ⟨c, e2, (keepL_rel h 64).2 _ _ _ h5 hna h6⟩
    | tup _ => cases h3

/-! ### the variables, handed over -/
def DecL (lk : Nat → Option AObj) (bs : List Nat) : List LS → List Lf → Nat → List Lf → Upd → List (Option Nat) → Prop
  | [], [], _, ls', u, L => ls' = [] ∧ u = [] ∧ L = []
  | .keep l :: ss, x :: xs, m, ls', u, L => ∃ r, keepL lk bs 64 x = some l ∧ ls' = l :: r ∧ DecL lk bs ss xs m r u L
  | .val t :: ss, x :: xs, m, ls', u, L => ∃ y r, keepL lk bs 64 x = some (.v t y) ∧ ls' = .v t y :: r ∧ DecL lk bs ss xs m r u L
  | .own e t :: ss, x :: xs, m, ls', u, L => ∃ ys r u' L', ls' = .row (boxName m) :: r ∧ u = (boxName m, .row e t ys false) :: u' ∧
      ((∃ n, x = .row n ∧ lk n = some (.row e t ys false) ∧ L = some n :: L') ∨ (x = .nil e t ∧ ys = [] ∧ L = none :: L')) ∧ DecL lk bs ss xs (m + 1) r u' L'
  | _, _, _, _, _, _ => False
def DecB (lk : Nat → Option AObj) (bs : List Nat) : List BoxS → List Nat → Nat → Nat → List (Nat × AObj) → List (Option Nat) → Prop
  | [], [], _, _, O, L => O = [] ∧ L = []
  | s :: ss, n :: ns, k, m, O, L => ∃ ls ls' u O' L1 L2, lk n = some (.box s.T ls) ∧ DecL lk bs s.ls ls m ls' u L1 ∧ O = (boxName k, .box s.T ls') :: (u ++ O') ∧ L = L1 ++ L2 ∧ L1.length = ownNum s.ls ∧ DecB lk bs ss ns (k + 1) (m + ownNum s.ls) O' L2
  | _, _, _, _, _, _ => False

theorem castV_same {t : Ty} (x : t.V) : castV t t x = some x := by unfold castV; rw [dif_pos rfl]

theorem encLs_dec {lk : Nat → Option AObj} {bs : List Nat} : ∀ {ss : List LS} {xs ms : List Lf}, encLs lk bs ss xs = some ms → ∀ m, ∃ ls' u L, decLs ss ms m = some (ls', u) ∧ DecL lk bs ss xs m ls' u L ∧ L.length = ownNum ss
  | [], [], ms, h, m => by
    simp only [encLs, Option.some.injEq] at h; subst h
    exact ⟨[], [], [], rfl, ⟨rfl, rfl, rfl⟩, rfl⟩
  | [], _ :: _, _, h, _ => by simp [encLs] at h
  | .keep l :: ss, [], _, h, _ => by simp [encLs] at h
  | .val t :: ss, [], _, h, _ => by simp [encLs] at h
  | .own e t :: ss, [], _, h, _ => by simp [encLs] at h
  | .keep l :: ss, x :: xs, ms, h, m => by
    simp only [encLs, Option.bind_eq_some_iff] at h
    obtain ⟨m', h1, h⟩ := h
    cases hb : eqLf l m' with
    | false => rw [hb] at h; cases h
    | true =>
      rw [hb] at h; simp only [cond_true] at h
      have := eqLf_eq hb
      subst this
      obtain ⟨ls', u, L, h2, h3, h4⟩ := encLs_dec h m
      exact ⟨l :: ls', u, L, by simp [decLs, h2], ⟨ls', h1, rfl, h3⟩, h4⟩
  | .val t :: ss, x :: xs, ms, h, m => by
    simp only [encLs] at h
    split at h
    · rename_i u0 x0 h1
      simp only [Option.bind_eq_some_iff, Option.some.injEq] at h
      obtain ⟨y, h2, r, h3, rfl⟩ := h
      obtain ⟨e, h4⟩ := castV_eq h2
      subst e
      simp only at h4; subst h4
      obtain ⟨ls', u, L, h5, h6, h7⟩ := encLs_dec h3 m
      exact ⟨_ :: ls', u, L, by simp [decLs, h5, castV_same], ⟨_, ls', h1, rfl, h6⟩, h7⟩
    · cases h
  | .own e t :: ss, x :: xs, ms, h, m => by
    cases x with
    | nil e' u0 =>
      simp only [encLs] at h
      cases hb : (Nat.beq e e' && decide (u0 = t)) with
      | false => rw [hb] at h; cases h
      | true =>
        rw [hb] at h
        simp only [cond_true, Option.bind_eq_some_iff, Option.some.injEq] at h
        obtain ⟨r, h3, rfl⟩ := h
        rw [Bool.and_eq_true] at hb
        have e1 := Nat.eq_of_beq_eq_true hb.1
        have e2 := of_decide_eq_true hb.2
        subst e1; subst e2
        obtain ⟨ls', u, L, h5, h6, h7⟩ := encLs_dec h3 (m + 1)
        exact ⟨.row (boxName m) :: ls', (boxName m, .row e u0 [] false) :: u, none :: L, by simp [decLs, h5, castV_same], ⟨[], ls', u, L, rfl, rfl, .inr ⟨rfl, rfl, rfl⟩, h6⟩, by simp [h7, ownNum]⟩
    | row n =>
      simp only [encLs] at h
      split at h
      · rename_i e' u0 xs0 hl
        cases hb : Nat.beq e e' with
        | false => rw [hb] at h; cases h
        | true =>
          rw [hb] at h
          simp only [cond_true, Option.bind_eq_some_iff, Option.some.injEq] at h
          obtain ⟨ys, h2, r, h3, rfl⟩ := h
          have e1 := Nat.eq_of_beq_eq_true hb
          subst e1
          obtain ⟨e2, h4⟩ := castV_eq h2
          cases e2
          have h4 : xs0 = ys := h4
          subst h4
          obtain ⟨ls', u, L, h5, h6, h7⟩ := encLs_dec h3 (m + 1)
          exact ⟨.row (boxName m) :: ls', (boxName m, .row e t xs0 false) :: u, some n :: L, by simp [decLs, h5, castV_same], ⟨xs0, ls', u, L, rfl, rfl, .inl ⟨n, rfl, hl, rfl⟩, h6⟩, by simp [h7, ownNum]⟩
      · cases h
    | v _ _ => simp [encLs] at h
    | ref _ _ => simp [encLs] at h
    | eref _ _ _ => simp [encLs] at h
    | view _ _ _ => simp [encLs] at h
    | pref _ _ => simp [encLs] at h
    | clo _ _ => simp [encLs] at h
    | undef => simp [encLs] at h
    | nilp => simp [encLs] at h
    | mp _ => simp [encLs] at h
theorem encBs_dec {lk : Nat → Option AObj} {bs : List Nat} : ∀ {ss : List BoxS} {ns : List Nat} {as : List AV}, encBs lk bs ss ns = some as → ∀ k m, ∃ O L, decBs ss as k m = some O ∧ DecB lk bs ss ns k m O L ∧ as.length = ss.length ∧ ns.length = ss.length
  | [], [], as, h, k, m => by
    simp only [encBs, Option.some.injEq] at h; subst h
    exact ⟨[], [], rfl, ⟨rfl, rfl⟩, rfl, rfl⟩
  | [], _ :: _, _, h, _, _ => by simp [encBs] at h
  | s :: ss, [], _, h, _, _ => by simp [encBs] at h
  | s :: ss, n :: ns, as, h, k, m => by
    simp only [encBs] at h
    split at h
    · rename_i T ls hl
      cases hb : Nat.beq T s.T with
      | false => rw [hb] at h; cases h
      | true =>
        rw [hb] at h
        simp only [cond_true, Option.bind_eq_some_iff, Option.some.injEq] at h
        obtain ⟨ms, h1, r, h2, rfl⟩ := h
        have e1 := Nat.eq_of_beq_eq_true hb
        subst e1
        obtain ⟨ls', u, L1, h3, h4, h5⟩ := encLs_dec h1 m
        obtain ⟨O', L2, h6, h7, h8, h9⟩ := encBs_dec h2 (k + 1) (m + ownNum s.ls)
        exact ⟨_, L1 ++ L2, by simp [decBs, h3, h6], ⟨ls, ls', u, O', L1, L2, hl, h4, rfl, rfl, h5, h7⟩, by simp [h8], by simp [h9]⟩
    · cases h

theorem mem_lkp {α : Type} : ∀ {l : List (Nat × α)} {n : Nat} {x : α}, (l.map (·.1)).Nodup → (n, x) ∈ l → lkp l n = some x
  | (m, y) :: l, n, x, hnd, h => by
    rw [List.map_cons, List.nodup_cons] at hnd
    rw [lkp_cons]
    rcases List.mem_cons.1 h with h1 | h1
    · cases h1; rw [if_pos rfl]
    · have hne : ¬ n = m := by rintro rfl; exact hnd.1 (List.mem_map.2 ⟨(n, x), h1, rfl⟩)
      rw [if_neg hne]
      exact mem_lkp hnd.2 h1

theorem decL_keys {lk : Nat → Option AObj} {bs : List Nat} : ∀ {ss : List LS} {xs : List Lf} {m : Nat} {ls' : List Lf} {u : Upd} {L : List (Option Nat)}, DecL lk bs ss xs m ls' u L →
    (∀ n o, (n, o) ∈ u → ∃ j, j < L.length ∧ n = boxName (m + j)) ∧ (u.map (·.1)).Nodup
  | [], [], m, ls', u, L, h => by
    obtain ⟨_, rfl, _⟩ := h
    exact ⟨fun n o h => (by cases h), List.nodup_nil⟩
  | [], _ :: _, _, _, _, _, h => h.elim
  | .keep l :: ss, [], _, _, _, _, h => h.elim
  | .val t :: ss, [], _, _, _, _, h => h.elim
  | .own e t :: ss, [], _, _, _, _, h => h.elim
  | .keep l :: ss, x :: xs, m, ls', u, L, ⟨r, _, _, h⟩ => decL_keys h
  | .val t :: ss, x :: xs, m, ls', u, L, ⟨_, r, _, _, h⟩ => decL_keys h
  | .own e t :: ss, x :: xs, m, ls', u, L, ⟨ys, r, u', L', _, hu, hL, h⟩ => by
    subst hu
    obtain ⟨h1, h2⟩ := decL_keys h
    have hl : L.length = L'.length + 1 := by rcases hL with ⟨n, _, _, rfl⟩ | ⟨_, _, rfl⟩ <;> rfl
    refine ⟨fun n o hn => ?_, ?_⟩
    · rcases List.mem_cons.1 hn with hn | hn
      · cases hn; exact ⟨0, by omega, rfl⟩
      · obtain ⟨j, h3, h4⟩ := h1 n o hn
        exact ⟨j + 1, by omega, by rw [h4, show m + 1 + j = m + (j + 1) by omega]⟩
    · rw [List.map_cons, List.nodup_cons]
      refine ⟨fun hm => ?_, h2⟩
      obtain ⟨⟨n, o⟩, h3, h4⟩ := List.mem_map.1 hm
      obtain ⟨j, _, h5⟩ := h1 n o h3
      simp only at h4
      rw [h5] at h4
      unfold boxName at h4; omega

theorem decB_keys {lk : Nat → Option AObj} {bs : List Nat} : ∀ {ss : List BoxS} {ns : List Nat} {k m : Nat} {O : List (Nat × AObj)} {L : List (Option Nat)}, DecB lk bs ss ns k m O L → k + ss.length ≤ m →
    (∀ n o, (n, o) ∈ O → (∃ j, j < ss.length ∧ n = boxName (k + j)) ∨ ∃ j, j < L.length ∧ n = boxName (m + j)) ∧ (O.map (·.1)).Nodup
  | [], [], k, m, O, L, h, _ => by
    obtain ⟨rfl, _⟩ := h
    exact ⟨fun n o h => (by cases h), List.nodup_nil⟩
  | [], _ :: _, _, _, _, _, h, _ => h.elim
  | s :: ss, [], _, _, _, _, h, _ => h.elim
  | s :: ss, n0 :: ns, k, m, O, L, ⟨ls, ls', u, O', L1, L2, _, h1, hO, hL, hlen, h2⟩, hm => by
    subst hO; subst hL
    simp only [List.length_cons] at hm
    obtain ⟨a1, a2⟩ := decL_keys h1
    obtain ⟨b1, b2⟩ := decB_keys h2 (by omega)
    refine ⟨fun n o hn => ?_, ?_⟩
    · rcases List.mem_cons.1 hn with hn | hn
      · cases hn; exact .inl ⟨0, by simp, rfl⟩
      · rcases List.mem_append.1 hn with hn | hn
        · obtain ⟨j, h3, h4⟩ := a1 n o hn
          exact .inr ⟨j, by rw [List.length_append]; omega, h4⟩
        · rcases b1 n o hn with ⟨j, h3, h4⟩ | ⟨j, h3, h4⟩
          · exact .inl ⟨j + 1, by simp; omega, by rw [h4, show k + 1 + j = k + (j + 1) by omega]⟩
          · exact .inr ⟨ownNum s.ls + j, by rw [List.length_append]; omega, by rw [h4, Nat.add_assoc]⟩
    · rw [List.map_cons, List.map_append, List.nodup_cons, List.nodup_append]
      refine ⟨fun hx => ?_, a2, b2, ?_⟩
      · rcases List.mem_append.1 hx with hx | hx
        · obtain ⟨⟨n, o⟩, h3, h4⟩ := List.mem_map.1 hx
          obtain ⟨j, _, h5⟩ := a1 n o h3
          simp only at h4; rw [h5] at h4; unfold boxName at h4; omega
        · obtain ⟨⟨n, o⟩, h3, h4⟩ := List.mem_map.1 hx
          simp only at h4
          rcases b1 n o h3 with ⟨j, _, h5⟩ | ⟨j, _, h5⟩ <;> (rw [h5] at h4; unfold boxName at h4; omega)
      · rintro a ha b hb rfl
        obtain ⟨⟨n, o⟩, h3, h4⟩ := List.mem_map.1 ha
        obtain ⟨⟨n', o'⟩, h5, h6⟩ := List.mem_map.1 hb
        obtain ⟨j, h7, h8⟩ := a1 n o h3
        simp only at h4 h6
        rcases b1 n' o' h5 with ⟨j', _, h9⟩ | ⟨j', _, h9⟩ <;> (rw [h8] at h4; rw [h9] at h6; unfold boxName at h4 h6; omega)

/-- where a callee's names lie -/
def renB (L : List (Option Nat)) (β : Nat → Place) (n : Nat) : Place := if n % 8 = 7 then (match L[n / 8]? with
  | some (some x) => β x
  | _ => (none, 0)) else (none, 0)
theorem renB_at (L : List (Option Nat)) (β : Nat → Place) (i : Nat) : renB L β (boxName i) = match L[i]? with
  | some (some x) => β x
  | _ => (none, 0) := by
  unfold renB boxName
  rw [if_pos (by omega), show (i * 8 + 7) / 8 = i by omega]
theorem renB_some {L : List (Option Nat)} {β : Nat → Place} {n b off : Nat} (h : (renB L β n).1 = some (b, off)) : ∃ i x, n = boxName i ∧ L[i]? = some (some x) ∧ (β x).1 = some (b, off) := by
  unfold renB at h
  split at h
  · rename_i hn
    split at h
    · rename_i x hx
      exact ⟨n / 8, x, by unfold boxName; omega, hx, h⟩
    · cases h
  · cases h

/-- what stands behind a callee's names -/
theorem decL_at {lk : Nat → Option AObj} {bs : List Nat} : ∀ {ss : List LS} {xs : List Lf} {m : Nat} {ls' : List Lf} {u : Upd} {L : List (Option Nat)}, DecL lk bs ss xs m ls' u L → ∀ n o, (n, o) ∈ u →
    ∃ j e t ys, n = boxName (m + j) ∧ o = .row e t ys false ∧ ((∃ x, L[j]? = some (some x) ∧ lk x = some (.row e t ys false)) ∨ (L[j]? = some none ∧ ys = ([] : List t.V)))
  | [], [], m, ls', u, L, h, n, o, hn => by obtain ⟨_, rfl, _⟩ := h; cases hn
  | [], _ :: _, _, _, _, _, h, _, _, _ => h.elim
  | .keep l :: ss, [], _, _, _, _, h, _, _, _ => h.elim
  | .val t :: ss, [], _, _, _, _, h, _, _, _ => h.elim
  | .own e t :: ss, [], _, _, _, _, h, _, _, _ => h.elim
  | .keep l :: ss, x :: xs, m, ls', u, L, ⟨r, _, _, h⟩, n, o, hn => decL_at h n o hn
  | .val t :: ss, x :: xs, m, ls', u, L, ⟨_, r, _, _, h⟩, n, o, hn => decL_at h n o hn
  | .own e t :: ss, x :: xs, m, ls', u, L, ⟨ys, r, u', L', _, hu, hL, h⟩, n, o, hn => by
    subst hu
    rcases List.mem_cons.1 hn with hn | hn
    · cases hn
      refine ⟨0, e, t, ys, rfl, rfl, ?_⟩
      rcases hL with ⟨x', _, h2, rfl⟩ | ⟨_, h2, rfl⟩
      · exact .inl ⟨x', rfl, h2⟩
      · exact .inr ⟨rfl, h2⟩
    · obtain ⟨j, e', t', ys', h1, h2, h3⟩ := decL_at h n o hn
      refine ⟨j + 1, e', t', ys', by rw [h1, show m + 1 + j = m + (j + 1) by omega], h2, ?_⟩
      have e1 : L[j + 1]? = L'[j]? := by rcases hL with ⟨x', _, _, rfl⟩ | ⟨_, _, rfl⟩ <;> simp
      rw [e1]; exact h3
theorem decB_at {lk : Nat → Option AObj} {bs : List Nat} : ∀ {ss : List BoxS} {ns : List Nat} {k m : Nat} {O : List (Nat × AObj)} {L : List (Option Nat)}, DecB lk bs ss ns k m O L → ∀ n o, (n, o) ∈ O →
    (∃ j x T ls ls' sl m' u L1, ns[j]? = some x ∧ n = boxName (k + j) ∧ lk x = some (.box T ls) ∧ o = .box T ls' ∧ DecL lk bs sl ls m' ls' u L1 ∧ m ≤ m' ∧ (∀ i, i < L1.length → L[m' - m + i]? = L1[i]?) ∧ (∀ q, q ∈ u → q ∈ O) ∧ ∀ q ∈ roLs sl ls, q ∈ roBs lk ss ns) ∨
    ∃ j e t ys, n = boxName (m + j) ∧ o = .row e t ys false ∧ ((∃ x, L[j]? = some (some x) ∧ lk x = some (.row e t ys false)) ∨ (L[j]? = some none ∧ ys = ([] : List t.V)))
  | [], [], k, m, O, L, h, n, o, hn => by obtain ⟨rfl, _⟩ := h; cases hn
  | [], _ :: _, _, _, _, _, h, _, _, _ => h.elim
  | s :: ss, [], _, _, _, _, h, _, _, _ => h.elim
  | s :: ss, n0 :: ns, k, m, O, L, ⟨ls, ls', u, O', L1, L2, h0, h1, hO, hL, hlen, h2⟩, n, o, hn => by
    subst hO; subst hL
    rcases List.mem_cons.1 hn with hn | hn
    · cases hn
      refine .inl ⟨0, n0, s.T, ls, ls', s.ls, m, u, L1, rfl, rfl, h0, rfl, h1, Nat.le_refl _, fun i hi => ?_, fun q hq => List.mem_cons_of_mem _ (List.mem_append_left _ hq), fun q hq => by simp only [roBs, h0]; exact List.mem_append_left _ hq⟩
      rw [Nat.sub_self, Nat.zero_add, List.getElem?_append_left hi]
    · rcases List.mem_append.1 hn with hn | hn
      · obtain ⟨j, e', t', ys', h3, h4, h5⟩ := decL_at h1 n o hn
        refine .inr ⟨j, e', t', ys', h3, h4, ?_⟩
        have hj : j < L1.length := by
          rcases h5 with ⟨x, h5, _⟩ | ⟨h5, _⟩ <;> exact (List.getElem?_eq_some_iff.1 h5).1
        rw [List.getElem?_append_left hj]; exact h5
      · rcases decB_at h2 n o hn with ⟨j, x, T, ls2, ls2', sl, m', u2, L3, g1, g2, g3, g4, g5, g6, g7, g8, g9⟩ | ⟨j, e', t', ys', h3, h4, h5⟩
        · refine .inl ⟨j + 1, x, T, ls2, ls2', sl, m', u2, L3, by simpa using g1, by rw [g2, show k + 1 + j = k + (j + 1) by omega], g3, g4, g5, by omega, fun i hi => ?_, fun q hq => List.mem_cons_of_mem _ (List.mem_append_right _ (g8 q hq)), fun q hq => by simp only [roBs, h0]; exact List.mem_append_right _ (g9 q hq)⟩
          rw [show m' - m + i = L1.length + (m' - (m + ownNum s.ls) + i) by omega, List.getElem?_append_right (by omega), show L1.length + (m' - (m + ownNum s.ls) + i) - L1.length = m' - (m + ownNum s.ls) + i by omega]
          exact g7 i hi
        · refine .inr ⟨ownNum s.ls + j, e', t', ys', by rw [h3, Nat.add_assoc], h4, ?_⟩
          rw [List.getElem?_append_right (by omega), show ownNum s.ls + j - L1.length = j by omega]; exact h5

def placeAt (L : List (Option Nat)) (β : Nat → Place) (j : Nat) : Place := match L[j]? with
  | some (some x) => β x
  | _ => (none, 0)
theorem decL_rel {p q : RP} {lk : Nat → Option AObj} {bs own : List Nat} (h : Sees p q lk bs own) (hlk : ∀ n o, lk n = some o → p.O n = some o) : ∀ {ss : List LS} {xs : List Lf} {m : Nat} {ls' : List Lf} {u : Upd} {L : List (Option Nat)} {cs : List Value}, DecL lk bs ss xs m ls' u L →
    (∀ n ∈ roLs ss xs, n ∉ own) → (∀ n o, (n, o) ∈ u → q.O n = some o) → (∀ j, j < L.length → q.β (boxName (m + j)) = placeAt L p.β j) → RelLs p xs cs → RelLs q ls' cs
  | [], [], m, ls', u, L, cs, hd, _, _, _, hr => by
    obtain ⟨h1, _, _⟩ := hd
    subst h1; exact hr
  | [], _ :: _, _, _, _, _, _, hd, _, _, _, _ => hd.elim
  | .keep l :: ss, [], _, _, _, _, _, hd, _, _, _, _ => hd.elim
  | .val t :: ss, [], _, _, _, _, _, hd, _, _, _, _ => hd.elim
  | .own e t :: ss, [], _, _, _, _, _, hd, _, _, _, _ => hd.elim
  | .keep l :: ss, x :: xs, m, ls', u, L, cs, hd, hro, hu, hβ, hr => by
    obtain ⟨r, h1, h2, h3⟩ := hd
    obtain ⟨c1, d1, e1, h4, h5⟩ := hr
    subst h2; subst e1
    exact ⟨c1, d1, rfl, (keepL_rel h 64).1 _ _ _ h1 (fun n hn => hro n (List.mem_append_left _ hn)) h4, decL_rel h hlk h3 (fun n hn => hro n (List.mem_append_right _ hn)) hu hβ h5⟩
  | .val t :: ss, x :: xs, m, ls', u, L, cs, hd, hro, hu, hβ, hr => by
    obtain ⟨y, r, h1, h2, h3⟩ := hd
    obtain ⟨c1, d1, e1, h4, h5⟩ := hr
    subst h2; subst e1
    exact ⟨c1, d1, rfl, (keepL_rel h 64).1 _ _ _ h1 (fun n hn => hro n (List.mem_append_left _ hn)) h4, decL_rel h hlk h3 (fun n hn => hro n (List.mem_append_right _ hn)) hu hβ h5⟩
  | .own e t :: ss, x :: xs, m, ls', u, L, cs, hd, hro, hu, hβ, hr => by
    obtain ⟨ys, r, u', L', h1, h2, hL, h3⟩ := hd
    obtain ⟨c1, d1, e1, h4, h5⟩ := hr
    subst h1; subst h2; subst e1
    have hlen : L.length = L'.length + 1 := by rcases hL with ⟨n, _, _, rfl⟩ | ⟨_, _, rfl⟩ <;> rfl
    have hat : ∀ j, placeAt L p.β (j + 1) = placeAt L' p.β j := by
      intro j
      unfold placeAt
      rcases hL with ⟨x', _, _, rfl⟩ | ⟨_, _, rfl⟩ <;> simp
    refine ⟨c1, d1, rfl, ?_, decL_rel h hlk h3 hro (fun n o hn => hu n o (List.mem_cons_of_mem _ hn)) (fun j hj => ?_) h5⟩
    · have hO := hu _ _ List.mem_cons_self
      have hb := hβ 0 (by omega)
      rw [Nat.add_zero] at hb
      unfold RelL
      rw [hO, hb]
      rcases hL with ⟨n, rfl, h6, rfl⟩ | ⟨rfl, rfl, rfl⟩
      · unfold RelL at h4
        rw [hlk _ _ h6] at h4
        exact h4
      · have h4 : c1 = [.slice none 0 0] := h4
        subst h4
        simp [placeAt, addrOf]
    · rw [show m + 1 + j = m + (j + 1) by omega, hβ (j + 1) (by omega)]
      exact hat j

/-- the caller's names of the variables -/
def RootsAt (root : Nat → Value) (q : RP) (bs : List Nat) : Prop := ∀ (j n : Nat), bs[j]? = some n → ∃ b T ls, root j = .pointer (some ⟨b, 0, none⟩) ∧ (q.β n).1 = some (b, 0) ∧ q.O n = some (.box T ls)
theorem keep_back {root : Nat → Value} {q : RP} {lk : Nat → Option AObj} {bs : List Nat} (hb : RootsAt root q bs) : ∀ (k : Nat),
    (∀ (k' : Nat) (x l : Lf) (v : Value), keepL lk bs k x = some l → KeepV root k' l v → RelL q x [v]) ∧
    ∀ (k' : Nat) (xs ls : List Lf) (cb : List Value), keepLs lk bs k xs = some ls → cb.length = ls.length → (∀ (i : Nat) (l : Lf) (u : Value), ls[i]? = some l → cb[i]? = some u → KeepV root k' l u) → RelLs q xs cb
  | 0 => ⟨(fun _ _ _ _ h => by cases h), (fun _ _ _ _ h => by cases h)⟩
  | k + 1 => by
    obtain ⟨ih1, ih2⟩ := keep_back hb k
    refine ⟨?_, ?_⟩
    · intro k' x l v e hk
      cases k' with
      | zero => exact hk.elim
      | succ k' =>
        cases x with
        | v t y => simp only [keepL, Option.some.injEq] at e; subst e; exact hk.elim
        | nil e0 t => simp only [keepL, Option.some.injEq] at e; subst e; exact hk.elim
        | row n =>
          simp only [keepL] at e
          split at e
          · simp only [Option.some.injEq] at e; subst e; exact hk.elim
          · cases e
        | ref n off =>
          simp only [keepL, Option.bind_eq_some_iff, Option.some.injEq] at e
          obtain ⟨j, h1, rfl⟩ := e
          obtain ⟨_, h2⟩ := idxN_at h1
          obtain ⟨j', b, h3, h4, h5⟩ := hk
          have : j = j' := by unfold boxName at h3; omega
          subst this
          obtain ⟨b', T, ls, h6, h7, h8⟩ := hb j n (by simpa using h2)
          rw [h4] at h6; simp only [Value.pointer.injEq, Option.some.injEq, Addr.mk.injEq, and_true] at h6; subst h6
          unfold RelL
          rw [h8]
          exact ⟨b, h7, by rw [h5]⟩
        | clo g cs =>
          simp only [keepL, Option.bind_eq_some_iff, Option.some.injEq] at e
          obtain ⟨ms, h1, rfl⟩ := e
          obtain ⟨cb, h2, h3, h4⟩ := hk
          subst h2
          exact ⟨cb.toArray, rfl, by simpa using ih2 k' cs ms cb h1 h3 h4⟩
        | nilp =>
          simp only [keepL, Option.some.injEq] at e; subst e
          have : v = .pointer none := hk
          subst this
          rfl
        | eref n i off => simp [keepL] at e
        | view n i off => simp [keepL] at e
        | pref _ _ => simp [keepL] at e
        | undef => simp [keepL] at e
        | mp n => simp [keepL] at e
    · intro k' xs ls cb e hl hk
      cases xs with
      | nil =>
        simp only [keepLs, Option.some.injEq] at e; subst e
        exact List.eq_nil_of_length_eq_zero hl
      | cons x xs =>
        simp only [keepLs, Option.bind_eq_some_iff, Option.some.injEq] at e
        obtain ⟨m, h1, ms', h2, rfl⟩ := e
        match cb, hl with
        | v :: cb, hl =>
          refine ⟨[v], cb, rfl, ih1 k' x m v h1 (hk 0 m v rfl rfl), ih2 k' xs ms' cb h2 (by simpa using hl) fun i l u hl hu => hk (i + 1) l u (by simpa using hl) (by simpa using hu)⟩

theorem fillLs_rel {root : Nat → Value} {q : RP} {lk : Nat → Option AObj} {bs : List Nat} (hb : RootsAt root q bs) : ∀ {ss : List LS} {xs : List Lf} {m : Nat} {ls' : List Lf} {u : Upd} {L : List (Option Nat)} {cl new rest : List Lf} {cells x d : List Value} {rs : List RS}, DecL lk bs ss xs m ls' u L →
    fillLs ss xs cl = some (new, rest) → EndC root ss cells x → cl.map Lf.size = (contRS ss ++ rs).map (fun r => r.ty.size) → RelLs q cl (x ++ d) → RelLs q new cells ∧ RelLs q rest d ∧ rest.map Lf.size = rs.map fun r => r.ty.size
  | [], [], m, ls', u, L, cl, new, rest, cells, x, d, rs, _, hf, he, hsz, hr => by
    simp only [fillLs, Option.some.injEq, Prod.mk.injEq] at hf
    obtain ⟨rfl, rfl⟩ := hf
    obtain ⟨rfl, rfl⟩ := he
    exact ⟨rfl, hr, hsz⟩
  | [], _ :: _, _, _, _, _, _, _, _, _, _, _, _, hd, _, _, _, _ => hd.elim
  | .keep l :: ss, [], _, _, _, _, _, _, _, _, _, _, _, hd, _, _, _, _ => hd.elim
  | .val t :: ss, [], _, _, _, _, _, _, _, _, _, _, _, hd, _, _, _, _ => hd.elim
  | .own e t :: ss, [], _, _, _, _, _, _, _, _, _, _, _, hd, _, _, _, _ => hd.elim
  | .keep l :: ss, y :: xs, m, ls', u, L, cl, new, rest, cells, x, d, rs, hd, hf, he, hsz, hr => by
    obtain ⟨r, h1, h2, h3⟩ := hd
    simp only [fillLs, Option.bind_eq_some_iff, Option.some.injEq, Prod.mk.injEq] at hf
    obtain ⟨p, h4, rfl, rfl⟩ := hf
    obtain ⟨v, rc, rfl, h5, h6⟩ := he
    obtain ⟨h7, h8, h9⟩ := fillLs_rel hb (rs := rs) h3 h4 h6 hsz hr
    exact ⟨⟨[v], rc, rfl, (keep_back hb 64).1 64 y l v h1 h5, h7⟩, h8, h9⟩
  | .val t :: ss, y :: xs, m, ls', u, L, cl, new, rest, cells, x, d, rs, hd, hf, he, hsz, hr => by
    obtain ⟨y', r, h1, h2, h3⟩ := hd
    match cl, hf with
    | z :: cl, hf =>
      simp only [fillLs, Option.bind_eq_some_iff, Option.some.injEq, Prod.mk.injEq] at hf
      obtain ⟨p, h4, rfl, rfl⟩ := hf
      obtain ⟨x1, rc, dx, rfl, rfl, hl, h6⟩ := he
      simp only [List.map_cons, contRS, List.cons_append, List.cons.injEq] at hsz
      obtain ⟨c1, d1, e1, h5, h5b⟩ := hr
      have hlen : x1.length = c1.length := by rw [RelL_len z h5, hl, hsz.1]; rfl
      rw [List.append_assoc] at e1
      obtain ⟨rfl, rfl⟩ := List.append_inj e1 hlen
      obtain ⟨h7, h8, h9⟩ := fillLs_rel hb (rs := rs) h3 h4 h6 hsz.2 h5b
      exact ⟨⟨x1, rc, rfl, h5, h7⟩, h8, h9⟩
  | .own e t :: ss, y :: xs, m, ls', u, L, cl, new, rest, cells, x, d, rs, hd, hf, he, hsz, hr => by
    obtain ⟨ys, r, u', L', _, _, _, h3⟩ := hd
    match cl, hf with
    | z :: cl, hf =>
      simp only [fillLs, Option.bind_eq_some_iff, Option.some.injEq, Prod.mk.injEq] at hf
      obtain ⟨p, h4, rfl, rfl⟩ := hf
      obtain ⟨v, rc, dx, rfl, rfl, h6⟩ := he
      simp only [List.map_cons, contRS, List.cons_append, List.cons.injEq] at hsz
      obtain ⟨c1, d1, e1, h5, h5b⟩ := hr
      have hlen : [v].length = c1.length := by rw [RelL_len z h5, hsz.1]; rfl
      have e1 : [v] ++ (dx ++ d) = c1 ++ d1 := e1
      obtain ⟨rfl, rfl⟩ := List.append_inj e1 hlen
      obtain ⟨h7, h8, h9⟩ := fillLs_rel hb (rs := rs) h3 h4 h6 hsz.2 h5b
      exact ⟨⟨[v], rc, rfl, h5, h7⟩, h8, h9⟩

theorem resV_last {rs : List RS} {bc : Array Value} : ∀ {d : RetD} {cs ws : List Value}, ResV (d ++ [(true, rs)]) cs (ws ++ [.agg bc]) → ∃ cs1, cs = cs1 ++ bc.toList ∧ ResV d cs1 ws
  | [], cs, ws, ⟨c, r, v, vr, e1, e2, hv, hl, h⟩ => by
    obtain ⟨rfl, rfl⟩ := h
    simp only [if_true] at hv
    match ws, e2 with
    | [], e2 =>
      simp only [List.nil_append, List.cons.injEq, and_true] at e2
      rw [hv] at e2
      simp only [Value.agg.injEq] at e2
      subst e2
      exact ⟨[], by simpa using e1, rfl, rfl⟩
    | [a], e2 => simp at e2
    | a :: b :: ws, e2 => simp at e2
  | (ag, rs') :: d, cs, ws, ⟨c, r, v, vr, e1, e2, hv, hl, h⟩ => by
    match ws, e2 with
    | [], e2 =>
      simp only [List.nil_append, List.cons.injEq] at e2
      obtain ⟨_, rfl⟩ := e2
      exfalso
      cases d with
      | nil => obtain ⟨_, _, _, _, _, h, _⟩ := h; cases h
      | cons q d => obtain ⟨_, _, _, _, _, h, _⟩ := h; cases h
    | a :: ws, e2 =>
      simp only [List.cons_append, List.cons.injEq] at e2
      obtain ⟨rfl, rfl⟩ := e2
      obtain ⟨cs1, e3, h3⟩ := resV_last h
      subst e3
      exact ⟨c ++ cs1, by rw [e1, List.append_assoc], c, cs1, a, ws, rfl, rfl, hv, hl, h3⟩
theorem eqRS_eq : ∀ {a b : List RS}, eqRS a b = true → a = b
  | [], [], _ => rfl
  | [], r :: _, h => by cases r <;> cases h
  | .ro t :: a, [], h => by cases h
  | .fresh e t :: a, [], h => by cases h
  | .ro t :: a, .ro u :: b, h => by
    simp only [eqRS, Bool.and_eq_true] at h
    rw [of_decide_eq_true h.1, eqRS_eq h.2]
  | .fresh e t :: a, .fresh f u :: b, h => by
    simp only [eqRS, Bool.and_eq_true] at h
    rw [Nat.eq_of_beq_eq_true h.1.1, of_decide_eq_true h.1.2, eqRS_eq h.2]
  | .ro _ :: _, .fresh _ _ :: _, h => by cases h
  | .fresh _ _ :: _, .ro _ :: _, h => by cases h
theorem retS_eq {c : Ctx} {g : FuncId} {sh : List BoxS} (h : retS c g sh = true) : c.ret g = (c.ret g).dropLast ++ [(true, contBs sh)] := by
  unfold retS at h
  split at h
  · rename_i rs hl
    have := eqRS_eq h
    subst this
    have hne : c.ret g ≠ [] := by intro hn; rw [hn] at hl; cases hl
    rw [List.getLast?_eq_some_getLast hne] at hl
    have e := List.dropLast_concat_getLast hne
    rw [Option.some.inj hl] at e
    exact e.symm
  · cases h

theorem dedupN_mem : ∀ {l seen : List Nat} {n : Nat}, n ∈ dedupN l seen → n ∈ l ∧ n ∉ seen
  | [], _, _, h => by cases h
  | m :: l, seen, n, h => by
    unfold dedupN at h
    cases hb : memB seen m with
    | true =>
      rw [hb] at h
      obtain ⟨h1, h2⟩ := dedupN_mem (l := l) h
      exact ⟨List.mem_cons_of_mem _ h1, h2⟩
    | false =>
      rw [hb] at h
      simp only [cond_false] at h
      rcases List.mem_cons.1 h with h | h
      · subst h
        refine ⟨List.mem_cons_self, fun hm => ?_⟩
        rw [memB_in hm] at hb; cases hb
      · obtain ⟨h1, h2⟩ := dedupN_mem h
        exact ⟨List.mem_cons_of_mem _ h1, fun hm => h2 (List.mem_cons_of_mem _ hm)⟩
theorem dedupN_nodup : ∀ {l seen : List Nat}, (dedupN l seen).Nodup
  | [], _ => List.nodup_nil
  | m :: l, seen => by
    unfold dedupN
    cases memB seen m with
    | true => exact dedupN_nodup
    | false =>
      simp only [cond_false]
      exact List.nodup_cons.2 ⟨fun h => (dedupN_mem h).2 List.mem_cons_self, dedupN_nodup⟩
theorem ownLs_L {lk : Nat → Option AObj} {bs : List Nat} : ∀ {ss : List LS} {xs : List Lf} {m : Nat} {ls' : List Lf} {u : Upd} {L : List (Option Nat)}, DecL lk bs ss xs m ls' u L → L.filterMap id = ownLs ss xs
  | [], [], m, ls', u, L, hd => by
    obtain ⟨_, _, h1⟩ := hd
    subst h1; rfl
  | [], _ :: _, _, _, _, _, hd => hd.elim
  | .keep l :: ss, [], _, _, _, _, hd => hd.elim
  | .val t :: ss, [], _, _, _, _, hd => hd.elim
  | .own e t :: ss, [], _, _, _, _, hd => hd.elim
  | .keep l :: ss, x :: xs, m, ls', u, L, hd => by
    obtain ⟨r, h1, h2, h3⟩ := hd
    have := ownLs_L h3
    cases x <;> exact this
  | .val t :: ss, x :: xs, m, ls', u, L, hd => by
    obtain ⟨y, r, h1, h2, h3⟩ := hd
    have := ownLs_L h3
    cases x <;> exact this
  | .own e t :: ss, x :: xs, m, ls', u, L, hd => by
    obtain ⟨ys, r, u', L', h1, h2, hL, h3⟩ := hd
    have := ownLs_L h3
    rcases hL with ⟨n, rfl, _, rfl⟩ | ⟨rfl, _, rfl⟩
    · show n :: L'.filterMap id = n :: ownLs ss xs
      rw [this]
    · exact this
theorem ownBs_L {lk : Nat → Option AObj} {bs : List Nat} : ∀ {ss : List BoxS} {ns : List Nat} {k m : Nat} {O : List (Nat × AObj)} {L : List (Option Nat)}, DecB lk bs ss ns k m O L → L.filterMap id = ownBs lk ss ns
  | [], [], k, m, O, L, hd => by
    obtain ⟨_, h1⟩ := hd
    subst h1; rfl
  | [], _ :: _, _, _, _, _, hd => hd.elim
  | s :: ss, [], _, _, _, _, hd => hd.elim
  | s :: ss, n :: ns, k, m, O, L, hd => by
    obtain ⟨ls, ls', u, O', L1, L2, h0, h1, _, h3, _, h5⟩ := hd
    subst h3
    rw [List.filterMap_append, ownLs_L h1, ownBs_L h5]
    simp only [ownBs, h0]

section
variable {P : Program} {c : Ctx}
variable {F : Fr} {S : CellSet} {β : Nat → Place} {O : Nat → Option AObj} {w : World}
theorem decL_row {lk : Nat → Option AObj} {bs : List Nat} : ∀ {ss : List LS} {xs : List Lf} {m : Nat} {ls' : List Lf} {u : Upd} {L : List (Option Nat)}, DecL lk bs ss xs m ls' u L → ∀ x, some x ∈ L → ∃ e t ys, lk x = some (.row e t ys false)
  | [], [], m, ls', u, L, hd, x, hx => by
    obtain ⟨_, _, h1⟩ := hd
    subst h1; cases hx
  | [], _ :: _, _, _, _, _, hd, _, _ => hd.elim
  | .keep l :: ss, [], _, _, _, _, hd, _, _ => hd.elim
  | .val t :: ss, [], _, _, _, _, hd, _, _ => hd.elim
  | .own e t :: ss, [], _, _, _, _, hd, _, _ => hd.elim
  | .keep l :: ss, y :: xs, m, ls', u, L, hd, x, hx => by
    obtain ⟨r, h1, h2, h3⟩ := hd
    exact decL_row h3 x hx
  | .val t :: ss, y :: xs, m, ls', u, L, hd, x, hx => by
    obtain ⟨_, r, h1, h2, h3⟩ := hd
    exact decL_row h3 x hx
  | .own e t :: ss, y :: xs, m, ls', u, L, hd, x, hx => by
    obtain ⟨ys, r, u', L', h1, h2, hL, h3⟩ := hd
    rcases hL with ⟨n, _, h4, rfl⟩ | ⟨_, _, rfl⟩
    · rcases List.mem_cons.1 hx with hx | hx
      · cases hx; exact ⟨e, t, ys, h4⟩
      · exact decL_row h3 x hx
    · rcases List.mem_cons.1 hx with hx | hx
      · cases hx
      · exact decL_row h3 x hx
theorem decB_row {lk : Nat → Option AObj} {bs : List Nat} : ∀ {ss : List BoxS} {ns : List Nat} {k m : Nat} {O : List (Nat × AObj)} {L : List (Option Nat)}, DecB lk bs ss ns k m O L → (∀ x, some x ∈ L → ∃ e t ys, lk x = some (.row e t ys false)) ∧
    ∀ (j n : Nat), ns[j]? = some n → ∃ T ls ls', lk n = some (.box T ls) ∧ (boxName (k + j), AObj.box T ls') ∈ O
  | [], [], k, m, O, L, hd => by
    obtain ⟨_, h1⟩ := hd
    subst h1
    exact ⟨(fun x hx => by cases hx), (fun j n h => by simp at h)⟩
  | [], _ :: _, _, _, _, _, hd => hd.elim
  | s :: ss, [], _, _, _, _, hd => hd.elim
  | s :: ss, n0 :: ns, k, m, O, L, hd => by
    obtain ⟨ls, ls', u, O', L1, L2, h0, h1, h2, h3, _, h5⟩ := hd
    subst h2; subst h3
    obtain ⟨a1, a2⟩ := decB_row h5
    refine ⟨fun x hx => ?_, fun j n hj => ?_⟩
    · rcases List.mem_append.1 hx with hx | hx
      · exact decL_row h1 x hx
      · exact a1 x hx
    · cases j with
      | zero => simp at hj; subst hj; exact ⟨s.T, ls, ls', h0, List.mem_cons_self⟩
      | succ j =>
        obtain ⟨T, l1, l2, h6, h7⟩ := a2 j n (by simpa using hj)
        exact ⟨T, l1, l2, h6, List.mem_cons_of_mem _ (List.mem_append_right _ (by rw [show k + (j + 1) = k + 1 + j by omega]; exact h7))⟩
theorem some_inj : ∀ {L : List (Option Nat)} {i j x : Nat}, (L.filterMap id).Nodup → L[i]? = some (some x) → L[j]? = some (some x) → i = j
  | [], i, _, _, _, h, _ => by simp at h
  | y :: L, 0, 0, _, _, _, _ => rfl
  | y :: L, 0, j + 1, x, hnd, h1, h2 => by
    simp at h1 h2; subst h1
    simp only [List.filterMap_cons, id] at hnd
    exact ((List.nodup_cons.1 hnd).1 (List.mem_filterMap.2 ⟨some x, List.mem_of_getElem? h2, rfl⟩)).elim
  | y :: L, i + 1, 0, x, hnd, h1, h2 => by
    simp at h1 h2; subst h2
    simp only [List.filterMap_cons, id] at hnd
    exact ((List.nodup_cons.1 hnd).1 (List.mem_filterMap.2 ⟨some x, List.mem_of_getElem? h1, rfl⟩)).elim
  | y :: L, i + 1, j + 1, x, hnd, h1, h2 => by
    have : (L.filterMap id).Nodup := by
      cases y with
      | none => simpa using hnd
      | some z => simp only [List.filterMap_cons, id] at hnd; exact (List.nodup_cons.1 hnd).2
    rw [some_inj (i := i) (j := j) this (by simpa using h1) (by simpa using h2)]

theorem EndB_at {root : Nat → Value} {β : Nat → Place} {O : Nat → Option AObj} {w : World} : ∀ {ss : List BoxS} {k : Nat} {bc : List Value}, EndB root β O w ss k bc → ∀ j, j < ss.length → ∃ b n T ls arr, root (k + j) = .pointer (some ⟨b, 0, none⟩) ∧ O n = some (.box T ls) ∧ (β n).1 = some (b, 0) ∧ w.heap[b]? = some (.cells arr T (0, 0))
  | [], _, _, _, j, hj => absurd hj (Nat.not_lt_zero _)
  | s :: ss, k, bc, h, j, hj => by
    obtain ⟨b, n, ls, arr, x, d, h1, h2, h3, h4, _, _, h7⟩ := h
    cases j with
    | zero => exact ⟨b, n, _, ls, arr, h1, h2, h3, h4⟩
    | succ j =>
      obtain ⟨b', n', T', ls', arr', g1, g2, g3, g4⟩ := EndB_at h7 j (by simpa using hj)
      exact ⟨b', n', T', ls', arr', by rw [show k + (j + 1) = k + 1 + j by omega]; exact g1, g2, g3, g4⟩
theorem undefs_rel {q : RP} : ∀ {cs : List Value}, (∀ v ∈ cs, v.oneCell' = true) → RelLs q (List.replicate cs.length .undef) cs
  | [], _ => rfl
  | v :: cs, h => ⟨[v], cs, rfl, ⟨v, rfl, h v List.mem_cons_self⟩, undefs_rel fun u hu => h u (List.mem_cons_of_mem _ hu)⟩

theorem RetL_row {p : RP} {sh : Bool} : ∀ {rs : List RS} {x : HV (rsTys rs)} {cs : List Value} {ns : List Nat}, RetL p sh rs x cs ns → ∀ n ∈ ns, ∃ e t xs fz, p.O n = some (.row e t xs fz)
  | [], _, _, _, ⟨_, h⟩ => by subst h; simp
  | .ro t :: rs, x, cs, ns, ⟨_, _, _, _, h⟩ => RetL_row h
  | .fresh e t :: rs, x, cs, ns, .inl ⟨n0, ns', d, fz, h1, h2, _, _, h3⟩ => by
    subst h1
    intro n hn
    rcases List.mem_cons.1 hn with h | h
    · subst h; exact ⟨_, _, _, _, h2⟩
    · exact RetL_row h3 n h
  | .fresh e t :: rs, x, cs, ns, .inr ⟨d, _, _, h3⟩ => RetL_row h3

/-- the variables, filled in again -/
theorem fillBs_rel {root : Nat → Value} {q : RP} {lk : Nat → Option AObj} {bs : List Nat} (hb : RootsAt root q bs) {β' : Nat → Place} {O' : Nat → Option AObj} {w' : World} : ∀ {ss : List BoxS} {ns : List Nat} {k m : Nat} {O0 : List (Nat × AObj)} {L : List (Option Nat)} {cl : List Lf} {bu : Upd} {bc : List Value}, DecB lk bs ss ns k m O0 L →
    fillBs lk ss ns cl = some bu → EndB root β' O' w' ss k bc → cl.map Lf.size = (contBs ss).map (fun r => r.ty.size) → RelLs q cl bc →
    (∀ n o, (n, o) ∈ bu → ∃ (j b : Nat) (T : TypeId) (ls : List Lf) (arr : Array Value), ns[j]? = some n ∧ o = .box T ls ∧ root (k + j) = .pointer (some ⟨b, 0, none⟩) ∧ w'.heap[b]? = some (.cells arr T (0, 0)) ∧ RelLs q ls arr.toList) ∧ bu.map (·.1) = ns
  | [], [], k, m, O0, L, [], bu, bc, _, hf, _, _, _ => by
    simp only [fillBs, Option.some.injEq] at hf
    subst hf
    exact ⟨by simp, rfl⟩
  | [], [], k, m, O0, L, _ :: _, bu, bc, _, hf, _, _, _ => by cases hf
  | [], _ :: _, k, m, O0, L, cl, bu, bc, hd, _, _, _, _ => by cases hd
  | _ :: _, [], k, m, O0, L, cl, bu, bc, hd, _, _, _, _ => by cases hd
  | s :: ss, n :: ns, k, m, O0, L, cl, bu, bc, hd, hf, he, hsz, hr => by
    obtain ⟨ls, ls', u, O1, L1, L2, h1, h2, _, _, _, h3⟩ := hd
    unfold fillBs at hf
    rw [h1] at hf
    simp only [Option.bind_eq_some_iff, Option.some.injEq] at hf
    obtain ⟨⟨new, rest⟩, hf1, u1, hf2, rfl⟩ := hf
    obtain ⟨b, n', ls1, arr, x, d, e1, e2, e3, e4, rfl, e6, e7⟩ := he
    obtain ⟨g1, g2, g3⟩ := fillLs_rel hb h2 hf1 e6 (rs := contBs ss) (by rw [hsz]; rfl) hr
    obtain ⟨i1, i2⟩ := fillBs_rel hb h3 hf2 e7 g3 g2
    refine ⟨?_, by simp only [List.map_cons, i2]⟩
    intro n1 o1 hm
    rcases List.mem_cons.1 hm with hm | hm
    · cases hm
      exact ⟨0, b, s.T, new, arr, rfl, rfl, e1, e4, g1⟩
    · obtain ⟨j, b1, T1, ls2, arr1, j1, j2, j3, j4, j5⟩ := i1 n1 o1 hm
      exact ⟨j + 1, b1, T1, ls2, arr1, j1, j2, by rw [← j3]; congr 1; omega, j4, j5⟩

theorem ResV_len : ∀ {d : RetD} {cs ws : List Value}, ResV d cs ws → cs.length = ((d.flatMap (·.2)).map fun r => r.ty.size).sum
  | [], _, _, ⟨h, _⟩ => by subst h; rfl
  | (ag, rs) :: d, cs, ws, ⟨c, r, v, vr, e1, _, _, h1, h2⟩ => by
    subst e1
    rw [List.length_append, h1, ResV_len h2, List.flatMap_cons, List.map_append, List.sum_append]

/-- the callee's own frame -/
theorem inner_core {lk : Nat → Option AObj} (hlk : ∀ n o, lk n = some o → O n = some o) {S1 : CellSet} {O1 : Nat → Option AObj} (hc0 : Core F S β O w) (hc1 : Core F S1 β O1 w) (hSS : ∀ b i, S b i → S1 b i) {bs own : List Nat} {sh : List BoxS} {O0 : List (Nat × AObj)} {L : List (Option Nat)}
    (hnd : bs.Nodup) (hown : own.Nodup) (hL : L.filterMap id = own) (hd : DecB lk bs sh bs 0 sh.length O0 L) (hlen : bs.length = sh.length) (hbox1 : ∀ n T ls, O n = some (.box T ls) → O1 n = some (.box T ls)) (hown1 : ∀ n ∈ own, O1 n = O n)
    (hro : ∀ n ∈ roBs lk sh bs, n ∉ own)
    (hrow : ∀ n e t xs fz, lk n = some (.row e t xs fz) → n ∉ own → xs.length ≤ (β n).2 ∧ (xs = [] ∨ ∃ b o cs, (β n).1 = some (b, o) ∧ RdsOf (Rd S1 w t) cs xs ∧ At S1 w b o cs)) (root : Nat → Value)
    (X : Nat → Prop) (hX : ∀ b, X b ↔ ∃ (i x : Nat) (off : Nat), (bs.map some ++ L)[i]? = some (some x) ∧ (β x).1 = some (b, off)) :
    Core ⟨w, X, S1, root⟩ S1 (renB (bs.map some ++ L) β) (lkp O0) w ∧ Sees (F.rp S β O w) (Fr.rp ⟨w, X, S1, root⟩ S1 (renB (bs.map some ++ L) β) (lkp O0) w) lk bs own := by
  obtain ⟨hkeys, hknd⟩ := decB_keys hd (by omega)
  obtain ⟨hrows, hboxes⟩ := decB_row hd
  have hLb : ∀ (j n : Nat), bs[j]? = some n → (bs.map some ++ L)[j]? = some (some n) := by
    intro j n hj
    have := (List.getElem?_eq_some_iff.1 hj).1
    rw [List.getElem?_append_left (by simpa using this), List.getElem?_map, hj]; rfl
  have hLr : ∀ j : Nat, (bs.map some ++ L)[sh.length + j]? = L[j]? := by
    intro j
    rw [List.getElem?_append_right (by simp; omega)]
    congr 1; simp; omega
  have hkind : ∀ (i x : Nat), (bs.map some ++ L)[i]? = some (some x) → (∃ T ls, lk x = some (.box T ls) ∧ bs[i]? = some x) ∨ ∃ e t ys, lk x = some (.row e t ys false) ∧ x ∈ own := by
    intro i x hi
    by_cases hb : i < bs.length
    · left
      rw [List.getElem?_append_left (by simpa using hb), List.getElem?_map] at hi
      cases hq : bs[i]? with
      | none => rw [hq] at hi; cases hi
      | some y =>
        rw [hq] at hi
        simp only [Option.map_some, Option.some.injEq] at hi
        subst hi
        obtain ⟨T, ls, _, h1, _⟩ := hboxes i y hq
        exact ⟨T, ls, h1, rfl⟩
    · right
      rw [List.getElem?_append_right (by simp; omega)] at hi
      have hm := List.mem_of_getElem? hi
      obtain ⟨e, t, ys, h1⟩ := hrows x hm
      exact ⟨e, t, ys, h1, by rw [← hL]; exact List.mem_filterMap.2 ⟨some x, hm, rfl⟩⟩
  have hLnd : ((bs.map some ++ L).filterMap id).Nodup := by
    rw [List.filterMap_append, hL, List.filterMap_map]
    have : List.filterMap (id ∘ some) bs = bs := by
      induction bs with
      | nil => rfl
      | cons b bs _ => simp
    rw [this, List.nodup_append]
    refine ⟨hnd, hown, ?_⟩
    rintro a ha b hb rfl
    obtain ⟨j, hj⟩ := List.getElem?_of_mem ha
    obtain ⟨T, ls, _, h1, _⟩ := hboxes j a hj
    rw [← hL] at hb
    obtain ⟨y, h2, h3⟩ := List.mem_filterMap.1 hb
    have h3 : y = some a := h3
    subst h3
    obtain ⟨e, t, ys, h4⟩ := hrows a h2
    rw [h1] at h4; cases h4
  have hsee : Sees (F.rp S β O w) (Fr.rp ⟨w, X, S1, root⟩ S1 (renB (bs.map some ++ L) β) (lkp O0) w) lk bs own := by
    refine ⟨hSS, rfl, fun n e t xs fz h1 h2 => ⟨hlk _ _ h1, hrow n e t xs fz h1 h2⟩, ?_⟩
    intro j n hj
    obtain ⟨T, ls, ls', h1, h2⟩ := hboxes j n hj
    refine ⟨?_, T, ls, T, ls', hlk _ _ h1, ?_⟩
    · show renB _ β (boxName j) = β n
      rw [renB_at, hLb j n hj]
    · have := mem_lkp hknd h2
      rw [Nat.zero_add] at this; exact this
  have hO1 : ∀ (x : Nat) (o : AObj), lk x = some o → (∃ i : Nat, (bs.map some ++ L)[i]? = some (some x)) → O1 x = some o := by
    rintro x o ho ⟨i, hi⟩
    rcases hkind i x hi with ⟨T, ls, h1, _⟩ | ⟨e, t, ys, h1, h2⟩
    · rw [ho] at h1; cases h1; exact hbox1 _ _ _ (hlk _ _ ho)
    · rw [hown1 x h2]; exact hlk _ _ ho
  refine ⟨?_, hsee⟩
  constructor
  · rfl
  · rfl
  · rfl
  · exact Nat.le_refl _
  · exact Nat.le_refl _
  · exact fun _ _ _ => rfl
  · intro n o hn
    rcases decB_at hd n o (lkp_mem hn) with ⟨j, x, T, ls, ls', sl, m', u, L1, g1, g2, g3, g4, g5, g6, g7, g8, g9⟩ | ⟨j, e, t, ys, g1, g2, g3⟩
    · subst g4
      obtain ⟨b, arr, h1, h2, h3⟩ := hc0.obj x _ (hlk _ _ g3)
      refine ⟨b, arr, ?_, h2, ?_⟩
      · show (renB _ β n).1 = _
        rw [g2, Nat.zero_add, renB_at, hLb j x g1]; exact h1
      · refine decL_rel hsee (fun n o h => hlk n o h) g5 (fun q hq => hro q (g9 q hq)) (fun n o hno => mem_lkp hknd (g8 _ hno)) (fun i hi => ?_) h3
        show renB _ β (boxName (m' + i)) = _
        rw [renB_at, show m' + i = sh.length + (m' - sh.length + i) by omega, hLr, g7 i hi]
        rfl
    · subst g2
      rcases g3 with ⟨x, h1, h2⟩ | ⟨h1, h2⟩
      · have hβ : renB (bs.map some ++ L) β n = β x := by rw [g1, renB_at, hLr, h1]
        rcases hc0.obj x _ (hlk _ _ h2) with ⟨h3, h4⟩ | ⟨b, o0, arr, cs, rest, h3, h4, h5, h6, h7, h8, h9, h10⟩
        · exact .inl ⟨by show renB _ β n = _; rw [hβ]; exact h3, h4⟩
        · exact .inr ⟨b, o0, arr, cs, rest, by show (renB _ β n).1 = _; rw [hβ]; exact h3, h4, by show _ ≤ (renB _ β n).2; rw [hβ]; exact h5, h6, RdsOf_mono (fun _ _ => Rd_mono hSS (fun _ _ _ _ h => h) t) h7, by show _ + (renB _ β n).2 * _ ≤ _; rw [hβ]; exact h8, h9, h10⟩
      · exact .inl ⟨by show renB _ β n = _; rw [g1, renB_at, hLr, h1], h2⟩
  · intro n o b off hn hl hb
    obtain ⟨i, x, _, h2, h3⟩ := renB_some hb
    exact .inr ((hX b).2 ⟨i, x, off, h2, h3⟩)
  · intro n m o o' b x y hn hm hl hl' hb hb'
    obtain ⟨i, z, h1, h2, h3⟩ := renB_some hb
    obtain ⟨i', z', h4, h5, h6⟩ := renB_some hb'
    have hz : ∀ (i z : Nat), (bs.map some ++ L)[i]? = some (some z) → ∃ oz, O z = some oz ∧ oz.live = true := by
      intro i z hi
      rcases hkind i z hi with ⟨T, ls, g1, _⟩ | ⟨e, t, ys, g1, _⟩
      · exact ⟨_, hlk _ _ g1, rfl⟩
      · exact ⟨_, hlk _ _ g1, rfl⟩
    obtain ⟨oz, g1, g2⟩ := hz i z h2
    obtain ⟨oz', g3, g4⟩ := hz i' z' h5
    have := hc0.apart z z' oz oz' b x y g1 g3 g2 g4 h3 h6
    subst this
    rw [h1, h4, some_inj hLnd h2 h5]
  · exact fun _ _ h => h
  · exact fun _ _ h => .inl h
  · exact hc1.dom
  · intro b i n o off hs hn hl hb
    obtain ⟨i', x, h1, h2, h3⟩ := renB_some hb
    exfalso
    rcases hkind i' x h2 with ⟨T, ls, g1, _⟩ | ⟨e, t, ys, g1, _⟩
    · obtain ⟨_, _, _, h4, _⟩ := hc1.still b i x _ off hs (hO1 x _ g1 ⟨i', h2⟩) rfl h3
      cases h4
    · obtain ⟨_, _, _, h4, _⟩ := hc1.still b i x _ off hs (hO1 x _ g1 ⟨i', h2⟩) rfl h3
      cases h4
  · intro n e t xs b off i hn
    exfalso
    rcases decB_at hd n _ (lkp_mem hn) with ⟨j, x, T, ls, ls', sl, m', u, L1, g1, g2, g3, g4, _⟩ | ⟨j, e, t, ys, g1, g2, g3⟩
    · cases g4
    · cases g2

theorem scallOp_ok {I : Interp c} (hI : Snd P c I) {g : FuncId} {sh : List BoxS} (hsp : c.shape g = some sh) (hc : Core F S β O w) {lk : Nat → Option AObj} {ns : List Nat} (hlk : ∀ n o, lk n = some o → O n = some o) (hns : ∀ n o, lk n = some o → n ∈ ns)
    {d : Nat} {args : List AV} {av : AV} {u : Upd} (h : scallOp c I lk d g sh args ns two = some (av, u)) {vs : Array Value} (hr : RelAVs (F.rp S β O w) args vs.toList)
    (hfree : ∀ n o', (n, o') ∈ u → n / 8 = d → n % 8 < 5 → O n = none) :
    (callFunc g vs).run P w = .ok (.enter g vs) w ∧ Calls P g vs w fun e w' => ∃ v S' β', e = .returned v ∧ Core F S' β' (over u O) w' ∧ (F.rp S β O w).le (F.rp S' β' (over u O) w') ∧ RelAV (F.rp S' β' (over u O) w') av v := by
  unfold scallOp at h
  generalize hcnd : (Nat.blt (freshNum ((c.ret g).flatMap (·.2))) 6 && retS c g sh && nodupB (ownBs lk sh (boxNs lk ns)) && disjB (ownBs lk sh (boxNs lk ns)) (args.flatMap AV.names ++ roBs lk sh (boxNs lk ns))) = bb at h
  cases bb with
  | false => cases h
  | true =>
  simp only [cond_true, Option.bind_eq_some_iff, bindD, two, Option.some.injEq, Prod.mk.injEq] at h
  simp only [Bool.and_eq_true] at hcnd
  obtain ⟨⟨⟨hfn, hret⟩, hownB⟩, hdj⟩ := hcnd
  obtain ⟨as, has, st, hst, r, hr1, v, hv, bu, hbu, rfl, hu⟩ := h
  generalize hbs : boxNs lk ns = bs at *
  generalize how : ownBs lk sh bs = own at *
  have hdj' := disjB_no hdj
  have hownnd : own.Nodup := by
    have : ∀ l : List Nat, nodupB l = true → l.Nodup := by
      intro l
      induction l with
      | nil => intro _; exact List.nodup_nil
      | cons n l ih =>
        intro h
        simp only [nodupB, Bool.and_eq_true, Bool.not_eq_true'] at h
        refine List.nodup_cons.2 ⟨fun hm => ?_, ih h.2⟩
        rw [memB_in hm] at h; exact absurd h.1 (by simp)
    exact this _ hownB
  have hbsnd : bs.Nodup := by rw [← hbs]; exact dedupN_nodup
  obtain ⟨O0, L, hO0, hdB, hstl, hbsl⟩ := encBs_dec hst 0 sh.length
  have hLo : L.filterMap id = own := by rw [ownBs_L hdB]; exact how
  have hroo : ∀ n ∈ roBs lk sh bs, n ∉ own := fun n hn ho => hdj' n ho (List.mem_append_right _ hn)
  have haro : ∀ n ∈ args.flatMap AV.names, n ∉ own := fun n hn ho => hdj' n ho (List.mem_append_left _ hn)
  -- rows that are only read are frozen
  generalize hms : (ns.filter fun n => !memB own n) = ms at hu
  obtain ⟨S1, hc1, le1, hrow1, hbox1⟩ := hc.freezes hlk ms
  have hnotms : ∀ n ∈ own, n ∉ ms := by
    intro n hn hm
    rw [← hms] at hm
    have := (List.mem_filter.1 hm).2
    rw [memB_in hn] at this; cases this
  have hown1 : ∀ n ∈ own, over (freezes lk ms) O n = O n := by
    intro n hn
    unfold over
    rw [freezes_not (hnotms n hn)]
  have hrow : ∀ n e t xs fz, lk n = some (.row e t xs fz) → n ∉ own → xs.length ≤ (β n).2 ∧ (xs = [] ∨ ∃ b o cs, (β n).1 = some (b, o) ∧ RdsOf (Rd S1 w t) cs xs ∧ At S1 w b o cs) := by
    intro n e t xs fz hl hn
    obtain ⟨fz', h5, _, h6⟩ := hrow1 n _ _ _ _ (hlk _ _ hl)
    have hm : n ∈ ms := by
      rw [← hms]
      refine List.mem_filter.2 ⟨hns n _ hl, ?_⟩
      cases hb : memB own n with
      | false => rfl
      | true =>
        exfalso
        have : ∀ l : List Nat, memB l n = true → n ∈ l := by
          intro l
          induction l with
          | nil => intro h; cases h
          | cons m l ih =>
            intro h
            simp only [memB, Bool.or_eq_true] at h
            rcases h with h | h
            · rw [Nat.eq_of_beq_eq_true h]; exact List.mem_cons_self
            · exact List.mem_cons_of_mem _ (ih h)
        exact hn (this own hb)
    have := h6 hm (by rw [hl]; simp); subst this
    exact hc1.froz_reads h5
  have hbsbox : ∀ (j n : Nat), bs[j]? = some n → ∃ T ls, lk n = some (.box T ls) ∧ O n = some (.box T ls) := by
    intro j n hj
    obtain ⟨T, ls, _, h1, _⟩ := (decB_row hdB).2 j n hj
    exact ⟨T, ls, h1, hlk _ _ h1⟩
  let root : Nat → Value := fun k => match bs[k]? with
    | some n => .pointer (some ⟨((β n).1.getD (0, 0)).1, 0, none⟩)
    | none => undef
  let X : Nat → Prop := fun b => ∃ (i x : Nat) (off : Nat), (bs.map some ++ L)[i]? = some (some x) ∧ (β x).1 = some (b, off)
  obtain ⟨hcI, hsee⟩ := inner_core hlk hc hc1 le1.S hbsnd hownnd hLo hdB hbsl hbox1 hown1 hroo hrow root X (fun b => Iff.rfl)
  obtain ⟨henter, hle, hcall⟩ := hI.scall g sh (as ++ st) r hsp hr1
  have hdrop : (as ++ st).drop ((as ++ st).length - sh.length) = st := by
    rw [List.length_append, hstl, Nat.add_sub_cancel]; exact List.drop_left' rfl
  have htake : (as ++ st).take ((as ++ st).length - sh.length) = as := by
    rw [List.length_append, hstl, Nat.add_sub_cancel]; exact List.take_left' rfl
  rw [hdrop, htake] at hcall
  refine ⟨henter w vs, (hcall O0 hO0 ⟨w, X, S1, root⟩ S1 _ w vs rfl ?_ hcI (keepAVs_rel hsee has haro hr)).mono ?_⟩
  · intro k hk
    obtain ⟨n, hn⟩ : ∃ n, bs[k]? = some n := ⟨_, List.getElem?_eq_getElem (by omega)⟩
    obtain ⟨T, ls, _, h2⟩ := hbsbox k n hn
    obtain ⟨b, arr, h3, _⟩ := hc.obj n _ h2
    simp only [Fr.rp] at h3
    refine ⟨b, ?_, ?_⟩
    · rw [renB_at, List.getElem?_append_left (by simp; omega), List.getElem?_map, hn]; exact h3
    · show root k = _
      simp only [root, hn, h3]; rfl
  rintro e w' ⟨S', β', O', cs, ws, ns', bc, rfl, hcc, hend, hretL, hnd', hres⟩
  have hkeep : ∀ k, k < w.heap.size → ¬ X k → w'.heap[k]? = w.heap[k]? := fun k hk hx => hcc.keep k hk hx
  have hL1 : ∀ (i x : Nat), (bs.map some ++ L)[i]? = some (some x) → ∃ o, O x = some o ∧ over (freezes lk ms) O x = some o ∧ o.live = true ∧ (∀ e t xs, o ≠ .row e t xs true) ∧ (x ∈ bs ∨ x ∈ own) := by
    intro i x hi
    by_cases hb : i < bs.length
    · rw [List.getElem?_append_left (by simpa using hb), List.getElem?_map] at hi
      cases hq : bs[i]? with
      | none => rw [hq] at hi; cases hi
      | some y =>
        rw [hq] at hi
        simp only [Option.map_some, Option.some.injEq] at hi
        subst hi
        obtain ⟨T, ls, h1, h2⟩ := hbsbox i y hq
        exact ⟨_, h2, hbox1 _ _ _ h2, rfl, (by intro e t xs hh; cases hh), .inl (List.mem_of_getElem? hq)⟩
    · rw [List.getElem?_append_right (by simp; omega)] at hi
      have hm := List.mem_of_getElem? hi
      obtain ⟨e, t, ys, h1⟩ := (decB_row hdB).1 x hm
      have hx : x ∈ own := by rw [← hLo]; exact List.mem_filterMap.2 ⟨some x, hm, rfl⟩
      exact ⟨_, hlk _ _ h1, by rw [hown1 x hx]; exact hlk _ _ h1, rfl, (by intro e t xs hh; cases hh), .inr hx⟩
  have hDX : ∀ (n : Nat) (o : AObj) (b off : Nat), over (freezes lk ms) O n = some o → o.live = true → (β n).1 = some (b, off) → X b → n ∈ bs ∨ n ∈ own := by
    rintro n o b off hn hl hb ⟨i, x, off', hi, hx⟩
    obtain ⟨o', h1, h2, h3, _, h4⟩ := hL1 i x hi
    have := hc1.apart n x o o' b off off' hn h2 hl h3 hb hx
    subst this; exact h4
  have hXS : ∀ b i, X b → ¬ S1 b i := by
    rintro b i ⟨j, x, off, hi, hx⟩ hs
    obtain ⟨o', h1, h2, h3, h4, _⟩ := hL1 j x hi
    obtain ⟨e, t, xs, h5, _⟩ := hc1.still b i x o' off hs h2 h3 hx
    exact h4 _ _ _ h5
  have hDin : ∀ n, n ∈ bs ∨ n ∈ own → ∃ i : Nat, (bs.map some ++ L)[i]? = some (some n) := by
    rintro n (hn | hn)
    · obtain ⟨j, hj⟩ := List.getElem?_of_mem hn
      have := (List.getElem?_eq_some_iff.1 hj).1
      exact ⟨j, by rw [List.getElem?_append_left (by simpa using this), List.getElem?_map, hj]; rfl⟩
    · rw [← hLo] at hn
      obtain ⟨y, h2, h3⟩ := List.mem_filterMap.1 hn
      have h3 : y = some n := h3
      subst h3
      obtain ⟨j, hj⟩ := List.getElem?_of_mem h2
      exact ⟨bs.length + j, by rw [List.getElem?_append_right (by simp)]; simpa using hj⟩
  have hend1 : ∀ (k n : Nat), bs[k]? = some n → ∃ b n' T ls arr, (β n).1 = some (b, 0) ∧ O' n' = some (.box T ls) ∧ (β' n').1 = some (b, 0) ∧ w'.heap[b]? = some (.cells arr T (0, 0)) := by
    intro k n hk
    have hlt := (List.getElem?_eq_some_iff.1 hk).1
    obtain ⟨b, n', T, ls, arr, h1, h2, h3, h4⟩ := EndB_at hend k (by omega)
    obtain ⟨T0, ls0, _, h5⟩ := hbsbox k n hk
    obtain ⟨b0, arr0, h6, _⟩ := hc.obj n _ h5
    simp only [Fr.rp] at h6
    rw [Nat.zero_add] at h1
    simp only [root, hk, h6, Option.getD_some, Value.pointer.injEq, Option.some.injEq, Addr.mk.injEq, and_true] at h1
    subst h1
    exact ⟨b0, n', T, ls, arr, h6, h2, h3, h4⟩
  let O2 : Nat → Option AObj := fun n => if n ∈ bs then (match (β n).1 with
      | some (b, _) => (match w'.heap[b]? with
        | some (.cells arr T _) => some (.box T (List.replicate arr.toList.length .undef))
        | _ => none)
      | none => none) else if n ∈ own then some .dead else over (freezes lk ms) O n
  have hO2b : ∀ n ∈ bs, ∃ b n' T ls arr, (β n).1 = some (b, 0) ∧ O' n' = some (.box T ls) ∧ (β' n').1 = some (b, 0) ∧ w'.heap[b]? = some (.cells arr T (0, 0)) ∧ O2 n = some (.box T (List.replicate arr.toList.length .undef)) := by
    intro n hn
    obtain ⟨k, hk⟩ := List.getElem?_of_mem hn
    obtain ⟨b, n', T, ls, arr, h1, h2, h3, h4⟩ := hend1 k n hk
    exact ⟨b, n', T, ls, arr, h1, h2, h3, h4, by simp only [O2, hn, if_true, h1, h4]⟩
  have hnb : ∀ n ∈ own, n ∉ bs := by
    intro n hn hb
    obtain ⟨k, hk⟩ := List.getElem?_of_mem hb
    obtain ⟨T, ls, h1, _⟩ := hbsbox k n hk
    rw [← hLo] at hn
    obtain ⟨y, h2, h3⟩ := List.mem_filterMap.1 hn
    have h3 : y = some n := h3
    subst h3
    obtain ⟨e, t, ys, h4⟩ := (decB_row hdB).1 n h2
    rw [h1] at h4; cases h4
  have hO2o : ∀ n ∈ own, O2 n = some .dead := by
    intro n hn
    simp only [O2, hnb n hn, hn, if_true, if_false]
  have hO2s : ∀ n, ¬ (n ∈ bs ∨ n ∈ own) → O2 n = over (freezes lk ms) O n := by
    intro n hn
    simp only [not_or] at hn
    simp only [O2, hn.1, hn.2, if_false]
  have hO1b : ∀ n ∈ bs, ∃ T ls, over (freezes lk ms) O n = some (.box T ls) := by
    intro n hn
    obtain ⟨k, hk⟩ := List.getElem?_of_mem hn
    obtain ⟨T, ls, _, h⟩ := hbsbox k n hk
    exact ⟨T, ls, hbox1 _ _ _ h⟩
  have hO1o : ∀ n ∈ own, ∃ e t xs fz, over (freezes lk ms) O n = some (.row e t xs fz) := by
    intro n hn
    have hn' := hn
    rw [← hLo] at hn'
    obtain ⟨y, h2, h3⟩ := List.mem_filterMap.1 hn'
    have h3 : y = some n := h3
    subst h3
    obtain ⟨e, t, ys, h4⟩ := (decB_row hdB).1 n h2
    exact ⟨e, t, ys, _, by rw [hown1 n hn]; exact hlk _ _ h4⟩
  obtain ⟨hc2, le2⟩ : Core F S' β O2 w' ∧ (F.rp S1 β (over (freezes lk ms) O) w).le (F.rp S' β O2 w') := by
    refine hc1.change (fun n => n ∈ bs ∨ n ∈ own) hcc.os hcc.tape hcc.output hcc.drawn hcc.size ?_ hcc.sf ?_ ?_ ?_ ?_ ?_ ?_ ?_ hcc.dom ?_ ?_
    · intro k hk hno
      refine hkeep k hk ?_
      rintro ⟨i, x, off, hi, hx⟩
      obtain ⟨o, _, h2, h3, _, h5⟩ := hL1 i x hi
      exact hno x o off h2 h3 h5 hx
    · intro b i v hs hcell
      rw [← hcell]; exact cellAt_block (hkeep b (hc1.dom b i hs) (fun hx => hXS b i hx hs))
    · exact fun n hn => ⟨hO2s n hn, rfl⟩
    · rintro n o hO (hn | hn)
      · obtain ⟨T, ls, h1⟩ := hO1b n hn
        obtain ⟨b, n', T', ls', arr, _, _, _, _, h2⟩ := hO2b n hn
        rw [h1] at hO; cases hO
        exact ⟨_, h2, .inr ⟨_, _, rfl⟩, fun _ => rfl⟩
      · obtain ⟨e, t, xs, fz, h1⟩ := hO1o n hn
        rw [h1] at hO; cases hO
        exact ⟨_, hO2o n hn, .inl rfl, fun _ => rfl⟩
    · rintro _ n o hO (hn | hn)
      · obtain ⟨b, n', T', ls', arr, h1, h2, h3, h4, h5⟩ := hO2b n hn
        rw [h5] at hO; cases hO
        obtain ⟨b', arr', h6, h7, h8⟩ := hcc.obj n' _ h2
        simp only [Fr.rp] at h6 h7
        rw [h3] at h6; cases h6
        rw [h4] at h7; cases h7
        exact ⟨b, arr, h1, h4, undefs_rel (RelLs_cells _ h8)⟩
      · rw [hO2o n hn] at hO; cases hO
        trivial
    · rintro n o b off (hn | hn) hO hl hb
      · obtain ⟨T, ls, h1⟩ := hO1b n hn
        exact hc1.far n _ b off h1 rfl hb
      · rw [hO2o n hn] at hO; cases hO; cases hl
    · rintro n m o o' b x y (hn | hn) hO hO' hl hl' hb hb'
      · obtain ⟨T, ls, h1⟩ := hO1b n hn
        by_cases hm : m ∈ bs ∨ m ∈ own
        · rcases hm with hm | hm
          · obtain ⟨T', ls', h2⟩ := hO1b m hm
            exact hc1.apart n m _ _ b x y h1 h2 rfl rfl hb hb'
          · rw [hO2o m hm] at hO'; cases hO'; cases hl'
        · rw [hO2s m hm] at hO'
          exact hc1.apart n m _ _ b x y h1 hO' rfl hl' hb hb'
      · rw [hO2o n hn] at hO; cases hO; cases hl
    · intro b i hs
      rcases hcc.fresh b i hs with h1 | h1 | ⟨i', x, off, hi, hx⟩
      · exact .inl h1
      · exact .inr (.inr (.inl (Nat.le_trans hc1.size h1)))
      · obtain ⟨o, _, h2, h3, _, _⟩ := hL1 i' x hi
        exact .inr (.inr (hc1.far x o b off h2 h3 hx))
    · intro b i n o off hs hO hl hb
      by_cases hn : n ∈ bs ∨ n ∈ own
      · rcases hn with hn | hn
        · obtain ⟨b0, n', T', ls', arr, h1, h2, h3, h4, h5⟩ := hO2b n hn
          rw [h1] at hb; cases hb
          obtain ⟨e, t, xs, h6, _⟩ := hcc.still _ i n' _ 0 hs h2 rfl h3
          cases h6
        · rw [hO2o n hn] at hO; cases hO; cases hl
      · have hO := hO; rw [hO2s n hn] at hO
        rcases hcc.fresh b i hs with h1 | h1 | h1
        · exact hc1.still b i n o off h1 hO hl hb
        · exact absurd (ObjR_block (hc1.obj n o hO) hl hb) (Nat.not_lt.2 h1)
        · exact absurd (hDX n o b off hO hl hb h1) hn
    · rintro n e t xs b off i (hn | hn) hO
      · obtain ⟨_, _, _, _, _, _, _, _, _, h5⟩ := hO2b n hn
        rw [h5] at hO; cases hO
      · rw [hO2o n hn] at hO; cases hO
  have hfr : ∀ i, (lkp (unpackL d ((c.ret g).flatMap (·.2)) r 0).2 i).isSome = true → O i = none := by
    intro i hi
    cases hl : lkp (unpackL d ((c.ret g).flatMap (·.2)) r 0).2 i with
    | none => rw [hl] at hi; cases hi
    | some o' =>
      have hm := lkp_mem hl
      obtain ⟨j, h1, h2⟩ := unpack_mem d _ _ _ _ _ hm
      have : freshNum _ + 1 ≤ 6 := Nat.le_of_ble_eq_true hfn
      refine hfree i o' ?_ (by omega) (by omega)
      rw [← hu]; exact List.mem_append_right _ (List.mem_append_right _ (List.mem_append_left _ hm))
  have hO1n : ∀ i, O i = none → over (freezes lk ms) O i = none := by
    intro i hi
    unfold over
    have hnone : lkp (freezes lk ms) i = none := by
      cases hl : lkp (freezes lk ms) i with
      | none => rfl
      | some o =>
        exfalso
        have : ∀ ns, (lkp (freezes lk ns) i).isSome = true → O i ≠ none := by
          intro ns
          induction ns with
          | nil => intro h; cases h
          | cons m ns ih =>
            unfold freezes
            split
            · rename_i e0 t0 xs0 hm
              rw [lkp_cons]
              split
              · rename_i e1; subst e1; intro _; rw [hlk _ _ hm]; simp
              · exact ih
            · exact ih
        exact this ms (by rw [hl]; rfl) hi
    rw [hnone]; exact hi
  have hO2n : ∀ i, O i = none → O2 i = none := by
    intro i hi
    have h1 := hO1n i hi
    rw [hO2s i ?_]
    · exact h1
    · rintro (hn | hn)
      · obtain ⟨T, ls, h2⟩ := hO1b i hn
        rw [h1] at h2; cases h2
      · obtain ⟨e, t, xs, fz, h2⟩ := hO1o i hn
        rw [h1] at h2; cases h2
  obtain ⟨β2, hc3, le3, hβ2, _, hrel⟩ := import_ret (F := F) hcc (Old := fun b => (b < w.heap.size ∧ ¬ X b) ∨ ∃ n ∈ bs, (β n).1 = some (b, 0)) true (S2 := S') (.inl ⟨rfl, fun _ _ h => h⟩) (d := d) hc2
    (by
      intro n o b off hO hl hb
      by_cases hn : n ∈ bs ∨ n ∈ own
      · rcases hn with hn | hn
        · obtain ⟨b0, _, _, _, _, h1, _⟩ := hO2b n hn
          rw [h1] at hb; cases hb
          exact .inl (.inr ⟨n, hn, h1⟩)
        · rw [hO2o n hn] at hO; cases hO; cases hl
      · have hO := hO; rw [hO2s n hn] at hO
        exact .inl (.inl ⟨ObjR_block (hc1.obj n o hO) hl hb, fun hx => hn (hDX n o b off hO hl hb hx)⟩))
    ((c.ret g).flatMap (·.2)) r cs ns' 0 hretL hnd' (by
      intro n o b off hn hO hl hb
      have hfar := hcc.far n o b off hO hl hb
      refine ⟨?_, ?_⟩
      · rintro (⟨h1, h2⟩ | ⟨m, hm, h1⟩)
        · rcases hfar with h | h
          · exact absurd h1 (Nat.not_lt.2 h)
          · exact h2 h
        · obtain ⟨b0, n2, T, ls, arr, h2, h3, h4, _⟩ := hO2b m hm
          rw [h1] at h2; cases h2
          have := hcc.apart n n2 _ _ b off 0 hO h3 hl rfl hb h4
          subst this
          obtain ⟨e, t, xs, fz, h5⟩ := RetL_row hretL n hn
          have h5 : O' n = some (.row e t xs fz) := h5
          rw [h3] at h5; cases h5
      · rcases hfar with h | ⟨i, x, off', hi, hx⟩
        · exact .inl (Nat.le_trans hc1.size h)
        · obtain ⟨o1, _, h2, h3, _, _⟩ := hL1 i x hi
          exact hc1.far x o1 b off' h2 h3 hx) (fun h => by cases h) (fun i hi => hO2n i (hfr i hi)) (fun _ _ _ _ _ h => h)
  have hrs : (c.ret g).flatMap (·.2) = (c.ret g).dropLast.flatMap (·.2) ++ contBs sh := by
    refine (congrArg (List.flatMap (·.2)) (retS_eq hret)).trans ?_
    rw [List.flatMap_append]; simp
  have hN : ((c.ret g).flatMap (·.2)).length - (contBs sh).length = ((c.ret g).dropLast.flatMap (·.2)).length := by
    rw [hrs, List.length_append, Nat.add_sub_cancel]
  rw [hN] at hv hbu
  have hszL := unpack_sizes d ((c.ret g).flatMap (·.2)) r 0
  generalize hLL : (unpackL d ((c.ret g).flatMap (·.2)) r 0).1 = LL at hv hbu hrel hszL
  generalize hUU : (unpackL d ((c.ret g).flatMap (·.2)) r 0).2 = U at hrel hc3 le3 hu hfr
  generalize hNN : ((c.ret g).dropLast.flatMap (·.2)).length = N at hv hbu
  have hsz1 : (LL.take N).map Lf.size = ((c.ret g).dropLast.flatMap (·.2)).map (fun r => r.ty.size) := by
    rw [List.map_take, hszL, hrs, List.map_append, ← hNN]; exact List.take_left' (by simp)
  have hsz2 : (LL.drop N).map Lf.size = (contBs sh).map (fun r => r.ty.size) := by
    rw [List.map_drop, hszL, hrs, List.map_append, ← hNN]; exact List.drop_left' (by simp)
  rw [← List.take_append_drop N LL] at hrel
  obtain ⟨c1, d1, hcs, hrelA, hrelB⟩ := RelLs_split _ _ hrel
  rw [retS_eq hret] at hres
  obtain ⟨cs1, hcs1, hresD⟩ := resV_last hres
  have hlen1 : c1.length = cs1.length := by
    rw [ResV_len hresD, RelLs_len _ hrelA, ← hsz1]
    clear hrelA
    induction LL.take N with
    | nil => rfl
    | cons l ls ih => simp only [sizes, List.map_cons, List.sum_cons] at ih ⊢
  obtain ⟨he1, he2⟩ := List.append_inj (hcs.symm.trans hcs1) hlen1
  subst he1
  have he2 : d1 = bc := he2
  subst he2
  have hav := groupAV_rel hsz1 hrelA hresD hv
  have hOn : ∀ n, O n ≠ none → over U O2 n = O2 n := by
    intro n hn
    unfold over
    cases hl : lkp U n with
    | none => rfl
    | some o => exact absurd (hfr n (by rw [hl]; rfl)) hn
  have hbsO : ∀ n ∈ bs, O n ≠ none := by
    intro n hn
    obtain ⟨k, hk⟩ := List.getElem?_of_mem hn
    obtain ⟨T, ls, _, h⟩ := hbsbox k n hk
    rw [h]; simp
  have hRA : RootsAt root (F.rp S' β2 (over U O2) w') bs := by
    intro j n hj
    have hn := List.mem_of_getElem? hj
    obtain ⟨b, _, T, _, arr, h1, _, _, _, h5⟩ := hO2b n hn
    have h6 : β2 n = β n := hβ2 n (by rw [h5]; simp)
    refine ⟨b, T, _, ?_, ?_, (hOn n (hbsO n hn)).trans h5⟩
    · simp only [root, hj, h1]; rfl
    · show (β2 n).1 = _
      rw [h6]; exact h1
  obtain ⟨hin, hkeys⟩ := fillBs_rel hRA hdB hbu hend hsz2 hrelB
  have hbuk : ∀ n, n ∉ bs → lkp bu n = none := by
    intro n hn
    cases hl : lkp bu n with
    | none => rfl
    | some o => exact absurd (by rw [← hkeys]; exact List.mem_map.2 ⟨_, lkp_mem hl, rfl⟩) hn
  have hbus : ∀ n ∈ bs, ∃ o, lkp bu n = some o := by
    intro n hn
    rw [← hkeys] at hn
    clear hkeys hin hbu hu hbuk
    induction bu with
    | nil => cases hn
    | cons p bu ih =>
      obtain ⟨m, o⟩ := p
      rw [lkp_cons]
      split
      · exact ⟨o, rfl⟩
      · rename_i hne
        rcases List.mem_cons.1 hn with h | h
        · exact absurd h hne
        · exact ih h
  have hfin : ∀ n, n ∉ bs → over u O n = over U O2 n := by
    intro n hn
    rw [← hu, over_append]
    have : over bu (over (deadU own ++ (U ++ freezes lk ms)) O) n = over (deadU own ++ (U ++ freezes lk ms)) O n := by
      unfold over; rw [hbuk n hn]
    rw [this, over_append]
    have hdead : ∀ (l : List Nat), lkp (deadU l) n = if n ∈ l then some .dead else none := by
      intro l
      induction l with
      | nil => rfl
      | cons m l ih =>
        show lkp ((m, AObj.dead) :: deadU l) n = _
        rw [lkp_cons, ih]
        by_cases h1 : n = m
        · simp [h1]
        · simp [h1]
    by_cases ho : n ∈ own
    · obtain ⟨e, t, xs, fz, h2⟩ := hO1o n ho
      rw [hOn n (by rw [← hown1 n ho, h2]; simp), hO2o n ho]
      unfold over; rw [hdead, if_pos ho]
    · have : over (deadU own) (over (U ++ freezes lk ms) O) n = over (U ++ freezes lk ms) O n := by
        unfold over; rw [hdead, if_neg ho]
      rw [this, over_append]
      have h3 := hO2s n (by rintro (h | h); exact hn h; exact ho h)
      have hov : ∀ (A B : Nat → Option AObj), A n = B n → over U A n = over U B n := by
        intro A B hAB
        unfold over
        rw [hAB]
      exact hov _ _ h3.symm
  have hfinb : ∀ n ∈ bs, ∃ b T T0 ls ls0 arr, over u O n = some (.box T ls) ∧ over U O2 n = some (.box T0 ls0) ∧ (β2 n).1 = some (b, 0) ∧ w'.heap[b]? = some (.cells arr T (0, 0)) ∧ RelLs (F.rp S' β2 (over U O2) w') ls arr.toList := by
    intro n hn
    obtain ⟨o, ho⟩ := hbus n hn
    obtain ⟨j, b, T, ls, arr, j1, rfl, j3, j4, j5⟩ := hin n o (lkp_mem ho)
    obtain ⟨b', T', ls', k1, k2, k3⟩ := hRA j n j1
    rw [Nat.zero_add, k1] at j3
    cases j3
    refine ⟨_, T, T', ls, ls', arr, ?_, k3, k2, j4, j5⟩
    rw [← hu, over_append]; unfold over; rw [ho]
  obtain ⟨hc4, le4⟩ : Core F S' β2 (over u O) w' ∧ (F.rp S' β2 (over U O2) w').le (F.rp S' β2 (over u O) w') := by
    refine hc3.change (fun n => n ∈ bs) rfl rfl rfl (Nat.le_refl _) (Nat.le_refl _) (fun _ _ _ => rfl) (fun _ _ h => h) (fun _ _ _ _ h => h) (fun n hn => ⟨hfin n hn, rfl⟩) ?_ ?_ ?_ ?_ (fun _ _ h => .inl h) hc3.dom ?_ ?_
    · intro n o hO hn
      obtain ⟨b, T, T0, ls, ls0, arr, h1, h2, _⟩ := hfinb n hn
      rw [h2] at hO; cases hO
      exact ⟨_, h1, .inr ⟨_, _, rfl⟩, fun _ => rfl⟩
    · intro hle n o hO hn
      obtain ⟨b, T, T0, ls, ls0, arr, h1, h2, h3, h4, h5⟩ := hfinb n hn
      rw [h1] at hO; cases hO
      exact ⟨b, arr, h3, h4, RelLs_le hle _ h5⟩
    · intro n o b off hn hO hl hb
      obtain ⟨_, T, T0, ls, ls0, arr, h1, h2, _⟩ := hfinb n hn
      exact hc3.far n _ b off h2 rfl hb
    · intro n m o o' b x y hn hO hO' hl hl' hb hb'
      obtain ⟨_, T, T0, ls, ls0, arr, h1, h2, _⟩ := hfinb n hn
      by_cases hm : m ∈ bs
      · obtain ⟨_, _, _, _, _, _, _, k2, _⟩ := hfinb m hm
        exact hc3.apart n m _ _ b x y h2 k2 rfl rfl hb hb'
      · rw [hfin m hm] at hO'
        exact hc3.apart n m _ _ b x y h2 hO' rfl hl' hb hb'
    · intro b i n o off hs hO hl hb
      by_cases hn : n ∈ bs
      · obtain ⟨_, T, T0, ls, ls0, arr, h1, h2, _⟩ := hfinb n hn
        obtain ⟨_, _, _, h6, _⟩ := hc3.still b i n _ off hs h2 rfl hb
        cases h6
      · rw [hfin n hn] at hO
        exact hc3.still b i n o off hs hO hl hb
    · intro n e t xs b off i hn hO
      obtain ⟨_, T, T0, ls, ls0, arr, h1, h2, _⟩ := hfinb n hn
      rw [h1] at hO; cases hO
  have hβ : ∀ n, O n ≠ none → β2 n = β n := by
    intro n hn
    refine hβ2 n ?_
    cases ho : O n with
    | none => exact absurd ho hn
    | some o =>
      obtain ⟨o1, h1, _⟩ := le1.obj n o ho
      obtain ⟨o2, h2, _⟩ := le2.obj n o1 h1
      have h2 : O2 n = some o2 := h2
      rw [h2]; simp
  have hb1 : ∀ n o, O n = some o → β2 n = β n := fun n o h => hβ n (by rw [h]; simp)
  refine ⟨_, S', β2, rfl, hc4, ?_, RelAV_le le4 _ hav⟩
  exact le_trans_same (le_trans_same (le_trans_same le1 le2 (fun _ _ _ _ _ _ => rfl)) le3 (fun n o _ h _ _ => hb1 n o h)) le4 (fun n o _ h _ _ => hb1 n o h)
end
end Go.Proofs.R

/- Ranges over strings. -/
namespace Go.Proofs.R
open Go

section
variable {P : Program} {c : Ctx}
variable {F : Fr} {S : CellSet} {β : Nat → Place} {O : Nat → Option AObj} {w : World} {a : Act} {σ : List (Nat × AV)} {o : Oper} {next : Act → World → Prop} {Q : Exit → Act → World → Prop}

theorem range_ok (hE : EnvOk P c) (hc : Core F S β O w) (hs : Slots (F.rp S β O w) (lkp σ) a.tmps) {T : TypeId} {X : Operand} (ho : o.op = .range T X) (hT : strOk c T = true) {s : ByteArray} (hx : gv c σ X 0 = some (.one (.v .str s)))
    {n : Nat} (hnew : O n = none) (hn : After F S β O (over [(n, .iter s 0)] O) w (.one (.ref n 0)) o a next) : o.wp P a w next Q := by
  have hv := rel_str (gv_rel hE hs hx)
  have hu := strOk_spec hE hT
  obtain ⟨h1, h2⟩ := hc.new hnew (.iter s 0) (by intro e t xs hh; cases hh) (.stringIter s 0) 0 (by
    intro q hq hb hw
    exact ⟨w.heap.size, by rw [hb], hw⟩)
  refine wp_value (v := .pointer (some ⟨w.heap.size, 0, none⟩)) (w' := { w with heap := w.heap.push (.stringIter s 0) }) ?_ ?_
  · simp [execOp, ho, Instr.range, run_underlying hu, hv]
  · rw [over_cons, over_nil] at hn
    refine hn _ _ _ _ h1 h2 (.inr ?_)
    unfold RelL
    simp only [Fr.rp, upd_same]
    exact ⟨w.heap.size, rfl, rfl⟩

/-- an object that is no row changes to one that is none -/
theorem Core.writeObj (h : Core F S β O w) {n : Nat} {o o' : AObj} (hn : O n = some o) (hl : o.live = true) (hto : o.to o') (hl' : o'.live = true)
    {b off : Nat} (hb : (β n).1 = some (b, off)) (hfz : ∀ e t xs, o ≠ .row e t xs true) (hfz' : ∀ e t xs, o' ≠ .row e t xs true) (blk : Obj)
    (hobj : ∀ q : RP, (F.rp S β O w).le q → q.β n = β n → q.w = { w with heap := w.heap.setIfInBounds b blk } → ObjR q n o') :
    Core F S β (upd O n (some o')) { w with heap := w.heap.setIfInBounds b blk } ∧ (F.rp S β O w).le (F.rp S β (upd O n (some o')) { w with heap := w.heap.setIfInBounds b blk }) := by
  have hno : ∀ i, ¬ S b i := by
    intro i hs
    obtain ⟨e, t, xs, rfl, _⟩ := h.still b i n o off hs hn hl hb
    exact hfz _ _ _ rfl
  have hother : ∀ k, k ≠ b → ({ w with heap := w.heap.setIfInBounds b blk } : World).heap[k]? = w.heap[k]? := fun k hk => Array.getElem?_setIfInBounds_ne (Ne.symm hk)
  refine h.change (fun m => m = n) rfl rfl rfl (Nat.le_refl _) (by simp) ?_ (fun _ _ h => h) ?_ ?_ ?_ ?_ ?_ ?_ (fun _ _ h => .inl h) ?_ ?_ ?_
  · intro k _ hk
    refine hother k ?_
    rintro rfl
    exact hk n o off hn hl rfl hb
  · intro b' i v hs hc
    rw [← hc]
    refine cellAt_block (hother b' ?_)
    rintro rfl; exact hno i hs
  · intro m hm; exact ⟨upd_ne _ _ _ _ hm, rfl⟩
  · rintro m o1 hO rfl
    rw [hn] at hO; cases hO
    exact ⟨o', upd_same _ _ _, hto, fun _ => rfl⟩
  · rintro le m o1 hO rfl
    rw [upd_same] at hO; cases hO
    exact hobj _ le rfl rfl
  · rintro m o1 b' off' rfl hO _ hb'
    exact h.far m o b' off' hn hl hb'
  · rintro m m' o1 o2 b1 x y rfl h1 h2 hl1 hl2 hb1 hb2
    by_cases e : m' = m
    · exact e.symm
    · rw [upd_ne _ _ _ _ e] at h2
      exact h.apart m m' o o2 b1 x y hn h2 hl hl2 hb1 hb2
  · intro b' i hs; have := h.dom b' i hs; simpa using this
  · intro b' i m o1 off' hs hO hl1 hb1
    by_cases e : m = n
    · subst e
      rw [hb] at hb1; simp only [Option.some.injEq, Prod.mk.injEq] at hb1; obtain ⟨rfl, rfl⟩ := hb1
      exact (hno i hs).elim
    · rw [upd_ne _ _ _ _ e] at hO
      exact h.still b' i m o1 off' hs hO hl1 hb1
  · rintro m e t xs b1 off1 i rfl hO
    rw [upd_same] at hO; cases hO
    exact (hfz' _ _ _ rfl).elim

theorem next_ok (hE : EnvOk P c) (hc : Core F S β O w) (hs : Slots (F.rp S β O w) (lkp σ) a.tmps) {X : Operand} (ho : o.op = .next X true) {n : Nat} (hx : gv c σ X 0 = some (.one (.ref n 0))) {s : ByteArray} {pos : Nat} (hO : O n = some (.iter s pos))
    (hn1 : pos < s.size → After F S β O (over [(n, .iter s (nextAt s pos))] O) w (.tup [(false, [.v .bool true]), (false, [.v (.int .i64) (pos : Int)]), (false, [.v (.int .i32) (runeAt s pos)])]) o a next)
    (hn2 : ¬ pos < s.size → After F S β O (over [] O) w (.tup [(false, [.v .bool false])]) o a next) : o.wp P a w next Q := by
  have hv := gv_rel hE hs hx
  rcases hv with hv | hv
  · cases hv
  unfold RelL at hv
  rw [show (F.rp S β O w).O n = some (.iter s pos) from hO] at hv
  obtain ⟨b, hb, hv⟩ := hv
  simp only [List.cons.injEq, and_true] at hv
  obtain ⟨b', hb', hw⟩ := hc.obj n _ hO
  rw [hb] at hb'; simp only [Option.some.injEq, Prod.mk.injEq, and_true] at hb'; subst hb'
  simp only [Fr.rp] at hb hw
  have hget : (getObj b).run P w = .ok (.stringIter s pos) w := by simp [getObj, Sem.run, hw]
  have hset : ∀ ob, (setObj b ob).run P w = .ok () { w with heap := w.heap.setIfInBounds b ob } := by intro ob; simp [setObj, Sem.run, hw]
  by_cases hp : pos < s.size
  · obtain ⟨h1, h2⟩ := hc.writeObj hO rfl (o' := .iter s (nextAt s pos)) (.inr ⟨_, _, rfl⟩) rfl hb (by intro e t xs hh; cases hh) (by intro e t xs hh; cases hh) (.stringIter s (nextAt s pos)) (by
      intro q _ hqb hqw
      refine ⟨b, by rw [hqb]; exact hb, ?_⟩
      rw [hqw]
      exact Array.getElem?_setIfInBounds_self_of_lt (Array.getElem?_eq_some_iff.1 hw).1)
    have hh := hn1 hp
    rw [over_cons, over_nil] at hh
    refine wp_value (v := .tuple #[.bool true, .int .i64 pos, .int .i32 (runeAt s pos)]) ?_ (hh _ _ _ _ h1 h2 ⟨_, rfl, ?_⟩)
    · simp [execOp, ho, Instr.next, hv, hget, hp, hset, nextAt, runeAt, goInt]
    · exact ⟨_, _, rfl, ⟨_, rfl, .inr rfl⟩, _, _, rfl, ⟨_, rfl, .inr rfl⟩, _, _, rfl, ⟨_, rfl, .inr rfl⟩, rfl⟩
  · refine pure_ok hc (v := .tuple #[.bool false]) ?_ ?_ (hn2 hp)
    case refine_2 => exact ⟨_, rfl, _, _, rfl, ⟨_, rfl, .inr rfl⟩, rfl⟩
    simp [execOp, ho, Instr.next, hv, hget, hp]
end
end Go.Proofs.R

/- Functions that sort a slice of the caller's in its place. -/
namespace Go.Proofs.R
open Go
section
variable {P : Program} {c : Ctx} {I : Interp c}
variable {F : Fr} {S : CellSet} {β : Nat → Place} {O : Nat → Option AObj} {w : World}

/-- a list that is sorted is what sorting comes to -/
theorem rds_list {α : Type} {R : List Value → α → Prop} : ∀ {cs : List Value} {xs : List α}, RdsOf R cs xs → ∃ d : List (List Value × α), d.map (·.2) = xs ∧ d.flatMap (·.1) = cs ∧ ∀ p ∈ d, R p.1 p.2
  | cs, [], h => ⟨[], rfl, by simpa [RdsOf] using h.symm, fun p hp => by cases hp⟩
  | cs, x :: xs, ⟨c1, d1, e, h1, h2⟩ => by
    obtain ⟨d, h3, h4, h5⟩ := rds_list h2
    refine ⟨(c1, x) :: d, by simp [h3], by simp [h4, e], ?_⟩
    intro p hp
    rcases List.mem_cons.1 hp with rfl | hp
    · exact h1
    · exact h5 p hp
theorem list_rds {α : Type} {R : List Value → α → Prop} : ∀ (d : List (List Value × α)), (∀ p ∈ d, R p.1 p.2) → RdsOf R (d.flatMap (·.1)) (d.map (·.2))
  | [], _ => rfl
  | p :: d, h => ⟨p.1, d.flatMap (·.1), by simp, h p List.mem_cons_self, list_rds d fun q hq => h q (List.mem_cons_of_mem _ hq)⟩

theorem retInt_eq {d : RetD} (h : retInt d = true) : d = [(false, [.ro (.int .i64)])] := by
  unfold retInt at h
  split at h
  · rfl
  · cases h

/-- what the caller's objects but one are to a callee, in a world where that one's block may hold anything -/
theorem opens_but (hc : Core F S β O w) {lk : Nat → Option AObj} (hlk : ∀ n o, lk n = some o → O n = some o) {n : Nat} {e : TypeId} {t : Ty} {xs : List t.V} (hO : O n = some (.row e t xs false)) {b o : Nat} (hb : (β n).1 = some (b, o))
    {W : World} (hW : ∀ k, k < w.heap.size → k ≠ b → W.heap[k]? = w.heap[k]?) :
    Opens (F.rp S β O w) (Fr.rp ⟨W, fun _ => False, fun k _ => k < w.heap.size ∧ k ≠ b, noRoot⟩ (fun k _ => k < w.heap.size ∧ k ≠ b) noBase (fun _ => none) W) (fun m => bif Nat.beq m n then none else lk m) := by
  have hSb : ∀ k i, S k i → k < w.heap.size ∧ k ≠ b := by
    intro k i hs
    refine ⟨hc.dom k i hs, ?_⟩
    rintro rfl
    obtain ⟨_, _, _, h, _⟩ := hc.still k i n _ o hs hO rfl hb
    cases h
  have hNb : ∀ k i, F.N k i → k < w.heap.size ∧ k ≠ b := by
    intro k i hn
    refine ⟨Nat.lt_of_lt_of_le hn.1 hc.size, ?_⟩
    rintro rfl
    rcases hc.far n _ k o hO rfl hb with h | h
    · have := hn.1; omega
    · exact hn.2 h
  have hcell : ∀ k i v, (S k i ∨ F.N k i) → cellAt w k i = some v → cellAt W k i = some v := by
    intro k i v hs hv
    have := hs.elim (hSb k i) (hNb k i)
    rw [← hv]; exact cellAt_block (hW k this.1 this.2)
  have hother : ∀ m o' k off, m ≠ n → O m = some o' → o'.live = true → (β m).1 = some (k, off) → k < w.heap.size ∧ k ≠ b := by
    intro m o' k off hm hOm hl hk
    refine ⟨ObjR_block (hc.obj m o' hOm) hl hk, ?_⟩
    rintro rfl
    exact hm (hc.apart m n _ _ k off o hOm hO hl rfl hk hb)
  refine ⟨hSb, hcell, fun k i hn => .inr (hNb k i hn), ?_, ?_⟩
  · intro m e1 t1 xs1 fz hl
    cases hmn : Nat.beq m n with
    | true => rw [hmn] at hl; cases hl
    | false =>
      rw [hmn] at hl; simp only [cond_false] at hl
      have hm : m ≠ n := by rintro rfl; simp at hmn
      have hOm := hlk m _ hl
      refine ⟨hOm, ?_⟩
      rcases hc.obj m _ hOm with ⟨h1, rfl⟩ | ⟨k, o0, arr, cs, rest, h1, h2, h3, h4, h5, _⟩
      · exact ⟨Nat.zero_le _, .inl rfl⟩
      · obtain ⟨q1, q2⟩ := hother m _ k o0 hm hOm rfl h1
        refine ⟨h3, .inr ⟨k, o0, cs, h1, ?_, ?_⟩⟩
        · exact RdsOf_mono (fun _ _ => Rd_mono hSb (fun b i v hs => hcell b i v (.inl hs)) t1) h5
        · simp only [Fr.rp] at h2
          have h2' : W.heap[k]? = some (.cells arr e1 (0, 0)) := by rw [hW k q1 q2]; exact h2
          exact At_of_block h2' h4 (fun j _ => ⟨q1, q2⟩)
  · intro m T ls hl
    cases hmn : Nat.beq m n with
    | true => rw [hmn] at hl; cases hl
    | false =>
      rw [hmn] at hl; simp only [cond_false] at hl
      have hm : m ≠ n := by rintro rfl; simp at hmn
      have hOm := hlk m _ hl
      obtain ⟨k, arr, h1, h2, h3⟩ := hc.obj m _ hOm
      obtain ⟨q1, q2⟩ := hother m _ k 0 hm hOm rfl h1
      refine ⟨hOm, k, arr.toList, h1, h3, ?_⟩
      simp only [Fr.rp] at h2
      have h2' : W.heap[k]? = some (.cells arr T (0, 0)) := by rw [hW k q1 q2]; exact h2
      exact At_of_block h2' (o := 0) (rest := []) (by simp) (fun j _ => .inr ⟨q1, q2⟩)

/-- a call that returns a number -/
theorem int_call (hI : Snd P c I) {g : FuncId} {args : List AV} (hsp : c.shape g = none) (hret : retInt (c.ret g) = true) {r : HV (rsTys ((c.ret g).flatMap (·.2)))} (h : I.call g args = some r) {z : Int} (hz : intRes ((c.ret g).flatMap (·.2)) r = some z)
    {W : World} {Sf : CellSet} {vs : Array Value} (hSf : ∀ b i, Sf b i → b < W.heap.size) (hr : RelAVs (Fr.rp ⟨W, fun _ => False, Sf, noRoot⟩ Sf noBase (fun _ => none) W) args vs.toList) :
    Calls P g vs W fun e w' => e = .returned (.int .i64 z) ∧ Grown W w' := by
  have key : ∀ (d : RetD) (r : HV (rsTys (d.flatMap (·.2)))), d = [(false, [.ro (.int .i64)])] → intRes (d.flatMap (·.2)) r = some z → ∀ (sh : Bool) p cs ws ns, RetL p sh (d.flatMap (·.2)) r cs ns → ResV d cs ws → oneOrTuple ws = .int .i64 z := by
    rintro d r rfl hz sh p cs ws ns h1 h2
    have hz : some r.1 = some z := hz
    obtain ⟨c1, d1, rfl, h3, h4⟩ := h1
    obtain ⟨rfl, rfl⟩ := h4
    have h3 : c1 = [.int .i64 r.1] := h3
    subst h3
    obtain ⟨c2, r2, v, vr, e1, rfl, h5, h6, h7⟩ := h2
    obtain ⟨rfl, rfl⟩ := h7
    simp only [Bool.false_eq_true, if_false] at h5
    subst h5
    simp only [List.append_nil, List.cons.injEq, and_true] at e1
    subst e1
    have := Option.some.inj hz
    subst this
    rfl
  refine ((hI.call g args r hsp h).2 W Sf vs hSf hr).mono ?_
  rintro e w' ⟨S', β', O', cs, ws, ns, rfl, hcc, h1, _, h2⟩
  refine ⟨by rw [key _ r (retInt_eq hret) hz _ _ _ _ _ h1 h2], hcc.os, hcc.tape, hcc.output, hcc.drawn, hcc.size, fun k hk => hcc.keep k hk id⟩
theorem grown_core (hc : Core F S β O w) {w' : World} (h1 : w'.os = w.os) (h2 : w'.tape = w.tape) (h3 : w'.output = w.output) (h3d : w.drawn ≤ w'.drawn) (h4 : w.heap.size ≤ w'.heap.size) (hkeep : ∀ k, k < w.heap.size → w'.heap[k]? = w.heap[k]?) :
    Core F S β O w' ∧ (F.rp S β O w).le (F.rp S β O w') := by
  refine hc.change (fun _ => False) h1 h2 h3 h3d h4 (fun k hk _ => hkeep k hk) (fun _ _ h => h) ?_ (fun _ _ => ⟨rfl, rfl⟩) (fun _ _ _ h => h.elim) (fun _ _ _ _ h => h.elim) (fun _ _ _ _ h => h.elim) (fun _ _ _ _ _ _ _ h => h.elim) (fun _ _ h => .inl h) ?_ hc.still (fun _ _ _ _ _ _ _ h => h.elim)
  · intro b i v hs hv; rw [← hv]; exact cellAt_block (hkeep b (hc.dom b i hs))
  · intro b i hs; exact Nat.lt_of_lt_of_le (hc.dom b i hs) h4

theorem scal_one {S : CellSet} {w : World} : ∀ {t : Ty} {cs : List Value} {x : t.V}, scal t = true → Rd S w t cs x → ∃ v, cs = [v]
  | .int _, _, _, _, h => ⟨_, h⟩
  | .bool, _, _, _, h => ⟨_, h⟩
  | .str, _, _, _, h => ⟨_, h⟩

theorem SortRes.told {α β : Type} {st : Bool} {f : α → β} {cf : β → β → Int} {d d' : List α} (h : SortRes st (fun x y => cf (f x) (f y)) d d') : SortRes st cf (d.map f) (d'.map f) := by
  refine ⟨h.perm.map f, List.pairwise_map.2 h.asc, fun hs x hx => ?_⟩
  obtain ⟨z, hz, rfl⟩ := List.mem_map.1 hx
  have := h.stab hs z hz
  rw [List.filter_map, List.filter_map]
  have e : (eqvB cf (f z) ∘ f) = eqvB (fun x y => cf (f x) (f y)) z := rfl
  rw [e, this]

abbrev Elt (S : CellSet) (w : World) (t : Ty) (xs : List t.V) := { p : List Value × t.V // Rd S w t p.1 p.2 ∧ p.2 ∈ xs }
theorem list_sub {α : Type} {p : α → Prop} : ∀ {l : List α}, (∀ x ∈ l, p x) → ∃ d : List { x // p x }, d.map (fun x => x.1) = l
  | [], _ => ⟨[], rfl⟩
  | x :: l, h => by
    obtain ⟨d, hd⟩ := list_sub fun y hy => h y (List.mem_cons_of_mem _ hy)
    exact ⟨⟨x, h x List.mem_cons_self⟩ :: d, by simp [hd]⟩
theorem sortRow_ok (hE : EnvOk P c) (hI : Snd P c I) (hc : Core F S β O w) {lk : Nat → Option AObj} (hlk : ∀ n o, lk n = some o → O n = some o) {T : TypeId} {ag st : Bool} {g : FuncId} {cs : List Lf} {l : Lf} {u : Upd}
    (h : sortRow c I lk T ag st g cs l some = some u) {sl : Value} (hl : RelL (F.rp S β O w) l [sl]) {cb : Array Value} (hcs : RelLs (F.rp S β O w) cs cb.toList) {f : FuncId} {args : Array Value} {res : Value} (hs : SortAs P T ag st sl g cb f args res) :
    Calls P f args w fun ee w' => ee = .returned res ∧ Core F S β (over u O) w' ∧ (F.rp S β O w).le (F.rp S β (over u O) w') := by
  unfold sortRow at h
  split at h
  · cases hb : slOk c T with
    | false => rw [hb] at h; cases h
    | true =>
      rw [hb] at h
      simp only [cond_true, Option.some.injEq] at h
      subst h
      have hsl : sl = .slice none 0 0 := by simpa [RelL] using hl
      refine (hs.1 none 0 hsl w).mono ?_
      rintro ee w' ⟨rfl, k1, k2, k3, k3d, k4, k5⟩
      obtain ⟨c1, l1⟩ := grown_core hc k1 k2 k3 k3d k4 k5
      exact ⟨rfl, c1, l1⟩
  · rename_i n
    split at h
    · rename_i e t xs hln
      cases hb : (eltOk c T t && elOk ag t && retInt (c.ret g) && cs.all (fun l => Nat.beq l.size 1) && (c.shape g).isNone) with
      | false => rw [hb] at h; cases h
      | true =>
        rw [hb] at h
        simp only [cond_true, Option.bind_eq_some_iff, bindD, Option.some.injEq] at h
        obtain ⟨as, has, ⟨⟩, hgr, r, hr, rfl⟩ := h
        simp only [Bool.and_eq_true] at hb
        obtain ⟨⟨⟨⟨hel, hok⟩, hret⟩, hcs1⟩, hsp0⟩ := hb
        have hsp : c.shape g = none := by simpa using hsp0
        have hgl := grow_le hgr
        unfold mostLen at hgl
        have hO := hlk _ _ hln
        unfold RelL at hl
        rw [show (F.rp S β O w).O n = some (.row e t xs false) from hO] at hl
        simp only [Fr.rp, List.cons.injEq, and_true] at hl
        subst hl
        have hov : over [(n, AObj.row e t r false)] O = upd O n (some (.row e t r false)) := by rw [over_cons, over_nil]
        rw [hov]
        obtain ⟨cf, hcmp, hby, hres, huniq⟩ := sortB_some.1 hr
        have hempty : xs = [] → ∀ A cap, (β n) = (A, cap) → Calls P f args w fun ee w' => ee = .returned res ∧ Core F S β (upd O n (some (.row e t r false))) w' ∧ (F.rp S β O w).le (F.rp S β (upd O n (some (.row e t r false))) w') := by
          rintro rfl A cap hβ
          have hr0 : r = [] := List.Perm.eq_nil hres.perm
          subst hr0
          have hsame : upd O n (some (.row e t ([] : List t.V) false)) = O := by
            funext m
            by_cases hm : m = n
            · subst hm; rw [upd_same, hO]
            · rw [upd_ne _ _ _ _ hm]
          rw [hsame]
          refine (hs.1 _ _ rfl w).mono ?_
          rintro ee w' ⟨rfl, k1, k2, k3, k3d, k4, k5⟩
          obtain ⟨c1, l1⟩ := grown_core hc k1 k2 k3 k3d k4 k5
          exact ⟨rfl, c1, l1⟩
        rcases hc.obj n _ hO with ⟨g1, g2⟩ | ⟨b, o, arr, cs', rest, g1, g2, g3, g4, g5, g6, g7, g8⟩
        · exact hempty g2 _ _ rfl
        · by_cases hx0 : xs = []
          · exact hempty hx0 _ _ rfl
          · have g1 : (β n).1 = some (b, o) := g1
            have g2 : w.heap[b]? = some (.cells arr e (0, 0)) := g2
            obtain ⟨e', ee', hTu, hee', hsz, hpos, te', hte', hde'⟩ := eltOk_spec hE hel
            obtain ⟨i, zv, hi, hisz, _⟩ := (hE.te e' ee' hee').info
            obtain ⟨d0, hd1, hd2, hd3⟩ := rds_list g5
            have hmem : ∀ p ∈ d0, Rd S w t p.1 p.2 ∧ p.2 ∈ xs := fun p hp => ⟨hd3 p hp, by rw [← hd1]; exact List.mem_map.2 ⟨p, hp, rfl⟩⟩
            obtain ⟨d, hdv⟩ : ∃ d : List (Elt S w t xs), d.map (fun x => x.1) = d0 := list_sub hmem
            have hdx : d.map (fun x => x.1.2) = xs := by
              have : (d.map (fun x => x.1)).map (fun x => x.2) = xs := by rw [hdv, hd1]
              rwa [List.map_map] at this
            have hdc : d.flatMap (fun x => x.1.1) = cs' := by
              have : (d.map (fun x => x.1)).flatMap (fun x => x.1) = cs' := by rw [hdv, hd2]
              rwa [List.flatMap_map] at this
            have hdl : d.length = xs.length := by
              have := congrArg List.length hdx
              rwa [List.length_map] at this
            have hinh : Nonempty (Elt S w t xs) := by
              cases hd : d with
              | nil => exfalso; rw [hd] at hdl; exact hx0 (List.eq_nil_of_length_eq_zero hdl.symm)
              | cons y _ => exact ⟨y⟩
            letI : Inhabited (Elt S w t xs) := ⟨Classical.choice hinh⟩
            have hpre : (arr.toList.take o).length = o := by simp; omega
            have harr : arr = (arr.toList.take o ++ (d.flatMap (fun x : Elt S w t xs => x.1.1) ++ rest)).toArray := by
              apply Array.toList_inj.1
              rw [hdc, ← g4]; simp
            have hsz2 : ∀ x : Elt S w t xs, x.1.1.length = i.size := fun x => by rw [Rd_len t x.2.1, hisz, hsz]
            have := hs.2 e' i hTu hi (Elt S w t xs) (fun x => x.1.1) (fun x y => cf x.1.2 y.1.2) b (β n).2 (arr.toList.take o) rest d w e (by rw [hpre, g1, hdl]; rfl) hsz2 (fun x => Rd_one t x.2.1)
              (fun zs => ⟨fun x _ => hby.irr _ x.2.2, fun x _ y _ z _ => hby.tr _ x.2.2 _ y.2.2 _ z.2.2, fun x _ y _ z _ => hby.ntr _ x.2.2 _ y.2.2 _ z.2.2⟩)
              (fun a1 w1 => by
                obtain ⟨x0⟩ := hinh
                have h5 := hcmp _ x0.2.2 _ x0.2.2
                simp only [Option.bind_eq_some_iff] at h5
                obtain ⟨q, h6, _⟩ := h5
                exact (hI.call _ _ _ hsp h6).1 w1 a1)
              (by rw [show ((arr.toList.take o ++ (d.flatMap (fun x : Elt S w t xs => x.1.1) ++ rest)).toArray) = arr from harr.symm]; exact g2) (by rw [hdl]; exact hgl) (by
                intro dk W hdk hW x y
                obtain ⟨k1, k2, k3, k3d, k4, k5, k6⟩ := hW
                have h5 := hcmp _ x.2.2 _ y.2.2
                simp only [Option.bind_eq_some_iff] at h5
                obtain ⟨q, h6, h7⟩ := h5
                have hop := opens_but hc hlk hO g1 (W := W) (fun k hk hkb => k6 k hk hkb)
                refine int_call hI hsp hret h6 h7 (Sf := fun k _ => k < w.heap.size ∧ k ≠ b) (fun k _ hk => Nat.lt_of_lt_of_le hk.1 k4) ?_
                have hRd : ∀ z : Elt S w t xs, Rd (fun k _ => k < w.heap.size ∧ k ≠ b) W t z.1.1 z.1.2 := fun z => Rd_mono hop.S (fun k i v hs => hop.cells k i v (.inl hs)) t z.2.1
                have hE1 : ∀ z : Elt S w t xs, RelAV (Fr.rp ⟨W, fun _ => False, fun k _ => k < w.heap.size ∧ k ≠ b, noRoot⟩ (fun k _ => k < w.heap.size ∧ k ≠ b) noBase (fun _ => none) W) (elAV ag t z.1.2) (elV ag z.1.1) := by
                  intro z
                  unfold elAV elV
                  cases hag : ag with
                  | true => exact ⟨_, rfl, by simpa using RelLs_leaves t (hRd z)⟩
                  | false =>
                    have hsc : scal t = true := by rw [hag] at hok; simpa [elOk] using hok
                    obtain ⟨v, hv⟩ := scal_one hsc (hRd z)
                    refine .inr ?_
                    have := hRd z
                    rw [hv] at this ⊢
                    exact this
                have hrest := resolveAVs_rel hop has (caps_rel hcs hcs1)
                rw [Array.toList_append]
                exact RelAVs_append ⟨_, _, rfl, hE1 x, _, _, rfl, hE1 y, rfl⟩ hrest)
            refine this.mono ?_
            rintro ee w' ⟨rfl, d', hres', k1, k2, k3, k3d, k4, k5, k6⟩
            have hr' : d'.map (fun x : Elt S w t xs => x.1.2) = r := by
              refine huniq _ ?_
              have := SortRes.told (f := fun x : Elt S w t xs => x.1.2) (cf := cf) hres'
              rw [hdx] at this; exact this
            have hlen' : d'.length = xs.length := by rw [hres'.perm.length_eq, hdl]
            have hfl : (d'.flatMap (fun x : Elt S w t xs => x.1.1)).length = cs'.length := by
              rw [← hdc]
              have : ∀ l : List (Elt S w t xs), (l.flatMap (fun x : Elt S w t xs => x.1.1)).length = l.length * i.size := by
                intro l
                induction l with
                | nil => simp
                | cons y l ih => rw [List.flatMap_cons, List.length_append, ih, hsz2, List.length_cons, Nat.add_mul]; omega
              rw [this, this, hlen', hdl]
            obtain ⟨c1, l1⟩ := hc.write hO rfl (o' := .row e t r false) (.inr ⟨_, _, _, rfl, by rw [← hr', List.length_map, hlen']⟩) rfl g1 (by intro e t xs hh; cases hh) (by intro e t xs hh; cases hh)
              (arr.toList.take o ++ (d'.flatMap (fun x : Elt S w t xs => x.1.1) ++ rest)).toArray (by
                intro q le hqb hqw
                have hsize : arr.size = (arr.toList.take o ++ (d'.flatMap (fun x : Elt S w t xs => x.1.1) ++ rest)).toArray.size := by
                  conv => lhs; rw [harr]
                  rw [hdc]; simp [hfl]
                refine .inr ⟨b, o, (arr.toList.take o ++ (d'.flatMap (fun x : Elt S w t xs => x.1.1) ++ rest)).toArray, d'.flatMap (fun x : Elt S w t xs => x.1.1), rest, by rw [hqb]; exact g1, ?_, ?_, ?_, ?_, ?_, ?_, ?_⟩
                · rw [hqw]; exact setRow_heap w b arr _ e (0, 0) g2
                · rw [hqb, ← hr', List.length_map, hlen']; exact g3
                · rw [List.drop_append_of_le_length (by omega), List.drop_of_length_le (by omega)]; rfl
                · rw [← hr']
                  have := list_rds (R := Rd S w t) (d'.map (·.1)) (by
                    intro p hp
                    obtain ⟨z, _, rfl⟩ := List.mem_map.1 hp
                    exact z.2.1)
                  rw [List.flatMap_map, List.map_map] at this
                  exact RdsOf_mono (fun _ _ => Rd_mono le.S (fun b i v hs => le.cells b i v (.inl hs)) t) this
                · rw [hqb, ← hsize]; exact g6
                · rw [← hsize]; exact g7
                · intro v hv
                  simp only [List.mem_append] at hv
                  rcases hv with hv | hv | hv
                  · exact g8 v (List.mem_of_mem_take hv)
                  · obtain ⟨z, _, hz⟩ := List.mem_flatMap.1 hv
                    exact Rd_one t z.2.1 v hz
                  · refine g8 v ?_
                    have : v ∈ arr.toList.drop o := by rw [g4]; exact List.mem_append_right _ hv
                    exact List.mem_of_mem_drop this)
            have hb' : b < w.heap.size := (Array.getElem?_eq_some_iff.1 g2).1
            obtain ⟨c2, l2⟩ := grown_core c1 (w' := w') k1 k2 k3 k3d (by rw [setRow_size]; exact k4) (by
              intro k hk
              rw [setRow_size] at hk
              by_cases hkb : k = b
              · subst hkb; rw [k5]; exact (setRow_heap w k arr _ e (0, 0) g2).symm
              · rw [k6 k hk hkb]; exact (setRow_other w b k _ hkb).symm)
            exact ⟨rfl, c2, le_trans_same l1 l2 (fun _ _ _ _ _ _ => rfl)⟩
    · cases h
  · cases h
theorem leaf_cell {p : RP} : ∀ {ls : List Lf} {cs : List Value} {j : Nat} {l : Lf}, RelLs p ls cs → ls.all (fun l => Nat.beq l.size 1) = true → ls[j]? = some l → ∃ v, cs[j]? = some v ∧ RelL p l [v]
  | [], _, j, l, _, _, h => by simp at h
  | x :: ls, _, j, l, ⟨c1, d1, e, h1, h2⟩, ha, h => by
    subst e
    simp only [List.all_cons, Bool.and_eq_true] at ha
    have hl := RelL_len x h1
    rw [Nat.eq_of_beq_eq_true ha.1] at hl
    match c1, hl with
    | [v], _ =>
      cases j with
      | zero => simp at h; subst h; exact ⟨v, rfl, h1⟩
      | succ j =>
        obtain ⟨u, h3, h4⟩ := leaf_cell h2 ha.2 (by simpa using h)
        exact ⟨u, by simpa using h3, h4⟩
theorem cells_len {p : RP} : ∀ {ls : List Lf} {cs : List Value}, RelLs p ls cs → ls.all (fun l => Nat.beq l.size 1) = true → cs.length = ls.length
  | [], _, h, _ => by simp only [RelLs] at h; subst h; rfl
  | x :: ls, _, ⟨c1, d1, e, h1, h2⟩, ha => by
    subst e
    simp only [List.all_cons, Bool.and_eq_true] at ha
    have hl := RelL_len x h1
    rw [Nat.eq_of_beq_eq_true ha.1] at hl
    rw [List.length_append, hl, cells_len h2 ha.2, List.length_cons]; omega
theorem leafAt_spec (hE : EnvOk P c) {p : RP} {U : TypeId} {j : Nat} {ls : List Lf} {l : Lf} (h : leafAt c U j ls = some l) {arr : Array Value} (hr : RelLs p ls arr.toList) :
    ∃ te ui z v, lkp c.te U = some te ∧ P.info? U = some ui ∧ ui.zero = some z ∧ (∀ p : RP, RelLs p te.z z.cells.toList) ∧ arr.size = ui.size ∧ arr[j]? = some v ∧ RelL p l [v] := by
  unfold leafAt at h
  simp only [Option.bind_eq_some_iff] at h
  obtain ⟨te, ht, h⟩ := h
  split at h
  · cases hb : (Nat.beq te.sz te.z.length && Nat.beq ls.length te.z.length && ls.all (fun l => Nat.beq l.size 1)) with
    | false => rw [hb] at h; cases h
    | true =>
      rw [hb] at h
      simp only [cond_true] at h
      simp only [Bool.and_eq_true] at hb
      obtain ⟨⟨h1, h2⟩, h3⟩ := hb
      obtain ⟨i, z, g1, g2, _, g4, g5, _⟩ := (hE.te U te ht).info
      obtain ⟨v, g6, g7⟩ := leaf_cell hr h3 h
      have h4 := cells_len hr h3
      have h1 := Nat.eq_of_beq_eq_true h1
      have h2 := Nat.eq_of_beq_eq_true h2
      refine ⟨te, i, z, v, ht, g1, g4, g5, ?_, by simpa using g6, g7⟩
      rw [g2, h1, ← h2, ← h4]; simp
  · cases h

theorem sort_intr_ok (hE : EnvOk P c) (hI : Snd P c I) (hc : Core F S β O w) {lk : Nat → Option AObj} (hlk : ∀ n o, lk n = some o → O n = some o) {d : Nat} {f : FuncId} {k : Intr} (hk : c.intr f = some k) {vs : List AV} {args : Array Value}
    (hr : RelAVs (F.rp S β O w) vs args.toList) {av : AV} {u : Upd} (h : intrOp c I lk d k vs two = some (av, u))
    (hsort : (∃ T ag st, k = .sort T ag st) ∨ (∃ U T j g, k = .sortF U T j g) ∨ ∃ U T i j g mi mj er, k = .sortS U T i j g mi mj er) :
    Calls P f args w fun e w' => ∃ v S' β', e = .returned v ∧ Core F S' β' (over u O) w' ∧ (F.rp S β O w).le (F.rp S' β' (over u O) w') ∧ RelAV (F.rp S' β' (over u O) w') av v := by
  have hspec := (hE.intr _ _ hk).2
  rcases hsort with ⟨T, ag, st, rfl⟩ | ⟨U, T, j, g, rfl⟩ | ⟨U, T, i, j, g, mi, mj, er, rfl⟩
  · unfold intrOp at h
    split at h
    any_goals contradiction
    rename_i T' ag' st' l g cs heq
    injection heq with e1 e2 e3
    subst e1; subst e2; subst e3
    rw [sortRow_nat] at h
    simp only [Option.bind_eq_some_iff, two, Option.some.injEq, Prod.mk.injEq] at h
    obtain ⟨u', h1, rfl, rfl⟩ := h
    obtain ⟨sl, r1, e1, h2, fv, r2, e2, h3, h4⟩ := hr
    simp only [RelAVs] at h4; subst h4; subst e2
    have ha : args = #[sl, fv] := by apply Array.toList_inj.1; rw [e1]
    subst ha
    obtain ⟨cb, h5, h6⟩ := h3.resolve_left (by simp)
    simp only [List.cons.injEq, and_true] at h5; subst h5
    have hl : RelL (F.rp S β O w) l [sl] := by
      refine h2.resolve_left ?_
      rintro rfl
      simp [sortRow] at h1
    refine (sortRow_ok hE hI hc hlk h1 hl h6 (hspec sl g cb)).mono ?_
    rintro ee w' ⟨rfl, c1, l1⟩
    exact ⟨_, S, β, rfl, c1, l1, _, rfl, rfl⟩
  · unfold intrOp at h
    split at h
    any_goals contradiction
    rename_i U' T' j' g' ls heq
    injection heq with e1 e2 e3 e4
    subst e1; subst e2; subst e3; subst e4
    simp only [Option.bind_eq_some_iff] at h
    obtain ⟨l, h0, h⟩ := h
    rw [sortRow_nat] at h
    simp only [Option.bind_eq_some_iff, two, Option.some.injEq, Prod.mk.injEq] at h
    obtain ⟨u', h1, rfl, rfl⟩ := h
    obtain ⟨v1, r1, e1, h2, h3⟩ := hr
    simp only [RelAVs] at h3; subst h3
    have ha : args = #[v1] := by apply Array.toList_inj.1; rw [e1]
    subst ha
    obtain ⟨arr, rfl, h4⟩ := h2
    obtain ⟨te, ui, z, sl, _, g2, _, _, g5, g6, g7⟩ := leafAt_spec hE h0 h4
    refine (sortRow_ok hE hI hc hlk h1 g7 (cs := []) (cb := #[]) rfl (hspec arr sl ui g2 g5 (RelLs_cells ls h4) g6)).mono ?_
    rintro ee w' ⟨rfl, c1, l1⟩
    exact ⟨_, S, β, rfl, c1, l1, RelAV_le l1 (.agg ls) ⟨arr, rfl, h4⟩⟩
  · unfold intrOp at h
    split at h
    any_goals contradiction
    rename_i U' T' i' j' g' mi' mj' er' ls heq
    injection heq with e1 e2 e3 e4 e5 e6 e7 e8
    subst e1; subst e2; subst e3; subst e4; subst e5; subst e6; subst e7; subst e8
    simp only [Option.bind_eq_some_iff] at h
    obtain ⟨te, h00, l, h0, q, h01, h⟩ := h
    split at h
    · rename_i n
      simp only [Option.bind_eq_some_iff] at h
      obtain ⟨m, h02, h⟩ := h
      obtain ⟨v1, r1, e1, h2, h3⟩ := hr
      simp only [RelAVs] at h3; subst h3
      have ha : args = #[v1] := by apply Array.toList_inj.1; rw [e1]
      subst ha
      obtain ⟨arr, rfl, h4⟩ := h2
      obtain ⟨te1, ui, z, sl, g1, g2, g3, g4, g5, g6, g7⟩ := leafAt_spec hE h0 h4
      rw [h00] at g1; cases g1
      obtain ⟨_, _, _, nv, _, _, _, _, _, g8, g9⟩ := leafAt_spec hE h01 h4
      have hnv : nv = .int .i64 n := by
        have : [nv] = [Value.int .i64 n] := g9
        simpa using this
      subst hnv
      have hsl : ∃ A len cap, sl = .slice A len cap ∧ ((len : Nat) : Int) = m := by
        unfold rowLen at h02
        split at h02
        · cases h02
          exact ⟨none, 0, 0, by simpa [RelL] using g7, rfl⟩
        · split at h02
          · rename_i e t xs fz hln
            cases h02
            have hO := hlk _ _ hln
            unfold RelL at g7
            rw [show (F.rp S β O w).O _ = some (.row e t xs fz) from hO] at g7
            simp only [List.cons.injEq, and_true] at g7
            exact ⟨_, _, _, g7, rfl⟩
          · cases h02
        · cases h02
      obtain ⟨A, len, cap, hsl, rfl⟩ := hsl
      obtain ⟨k1, k2⟩ := hspec arr sl ui n z A len cap g2 g3 g5 (RelLs_cells ls h4) g8 g6 hsl
      have herr : (n > mi ∨ (len : Int) > mj) → some (AV.tup [(true, te.z), (false, [.v (.int .i64) er])], ([] : Upd)) = some (av, u) → Calls P f #[.agg arr] w fun e w' => ∃ v S' β', e = .returned v ∧ Core F S' β' (over u O) w' ∧ (F.rp S β O w).le (F.rp S' β' (over u O) w') ∧ RelAV (F.rp S' β' (over u O) w') av v := by
        intro hh he
        cases he
        refine (k1 hh w).mono ?_
        rintro ee w' ⟨rfl, q1, q2, q3, q3d, q4, q5⟩
        obtain ⟨c1, l1⟩ := grown_core hc q1 q2 q3 q3d q4 q5
        exact ⟨_, S, β, rfl, c1, l1, _, rfl, _, _, rfl, ⟨_, rfl, g4 _⟩, _, _, rfl, ⟨_, rfl, .inr rfl⟩, rfl⟩
      by_cases hd1 : n > mi
      · rw [decide_eq_true hd1] at h
        exact herr (.inl hd1) h
      · rw [decide_eq_false hd1] at h
        by_cases hd2 : (len : Int) > mj
        · rw [decide_eq_true hd2] at h
          exact herr (.inr hd2) h
        · rw [decide_eq_false hd2] at h
          simp only [ifB, cond_false] at h
          rw [sortRow_nat] at h
          simp only [Option.bind_eq_some_iff, two, Option.some.injEq, Prod.mk.injEq] at h
          obtain ⟨u', h1, rfl, rfl⟩ := h
          refine (sortRow_ok hE hI hc hlk h1 g7 (cs := []) (cb := #[]) rfl (k2 hd1 hd2)).mono ?_
          rintro ee w' ⟨rfl, c1, l1⟩
          refine ⟨_, S, β, rfl, c1, l1, _, rfl, _, _, rfl, ⟨_, rfl, RelLs_le l1 ls h4⟩, _, _, rfl, ⟨_, rfl, .inr rfl⟩, rfl⟩
    · cases h
end
end Go.Proofs.R

/- Functions of the library that work on an object of the caller's: a strings.Builder. -/
namespace Go.Proofs.R
open Go
section
variable {P : Program} {c : Ctx} {I : Interp c}
variable {F : Fr} {S : CellSet} {β : Nat → Place} {O : Nat → Option AObj} {w : World}

theorem appendOp_lk {ρ : Type} {lk lk1 : Nat → Option AObj} {d : Nat} {T : TypeId} {s x : Lf} {K : AV → Upd → Option ρ} (h1 : ∀ m, s = .row m → lk1 m = lk m) (h2 : ∀ m, x = .row m → lk1 m = lk m) (h3 : ∀ m lo hi, x = .view m lo hi → lk1 m = lk m) :
    appendOp c lk1 d T s x K = appendOp c lk d T s x K := by
  have hr : rowsOf lk1 x = rowsOf lk x := by
    cases x with
    | v t x => cases t <;> rfl
    | row m => simp only [rowsOf]; rw [h2 _ rfl]
    | view m lo hi => simp only [rowsOf]; rw [h3 _ _ _ rfl]
    | _ => rfl
  unfold appendOp
  rw [hr]
  cases s <;> first | rfl | (simp only; rw [h1 _ rfl])

/-- a builder's two cells -/
theorem box_two (hc : Core F S β O w) {n : Nat} {T : TypeId} {a l : Lf} (hn : O n = some (.box T [a, l])) (ha : a.size = 1) (hl : l.size = 1) :
    ∃ b pa v, (β n).1 = some (b, 0) ∧ w.heap[b]? = some (.cells #[pa, v] T (0, 0)) ∧ RelL (F.rp S β O w) a [pa] ∧ RelL (F.rp S β O w) l [v] := by
  obtain ⟨b, arr, h1, h2, c1, d1, e, h3, c2, d2, e2, h4, h5⟩ := hc.obj n _ hn
  simp only [RelLs] at h5; subst h5
  have l1 := RelL_len a h3
  have l2 := RelL_len l h4
  rw [ha] at l1; rw [hl] at l2
  match c1, l1, c2, l2 with
  | [pa], _, [v], _ =>
    subst e2
    have : arr = #[pa, v] := by
      apply Array.ext'; rw [e]; rfl
    subst this
    exact ⟨b, pa, v, h1, h2, h3, h4⟩

theorem bapp_core (hE : EnvOk P c) (hc : Core F S β O w) {lk : Nat → Option AObj} (hlk : ∀ n o, lk n = some o → O n = some o) {d : Nat} (hd : O (d * 8) = none) {T U X : TypeId} (hX : (slOk c X || strOk c X) = true) {n : Nat} {x : Lf} {vx : Value}
    (hx : ∀ q : RP, (F.rp S β O w).le q → RelL q x [vx]) (hxn : ∀ m, x = .row m → lk m ≠ none ∧ m ≠ n) (hxv : ∀ m lo hi, x ≠ .view m lo hi) {r av : AV} {u : Upd} (h : bappOp c lk d T U n x r two = some (av, u)) :
    av = r ∧ ∃ b pa v v' uu w2 S' β', (β n).1 = some (b, 0) ∧ w.heap[b]? = some (.cells #[pa, v] T (0, 0)) ∧ (pa = .pointer none ∨ pa = .pointer (some ⟨b, 0, none⟩)) ∧
      (Builtin.append_ #[U, X] U #[v, vx]).run P (w.setRow b #[.pointer (some ⟨b, 0, none⟩), v]) = .ok v' w2 ∧ (∃ A n m, v' = .slice A n m) ∧ w2.heap[b]? = some (.cells #[.pointer (some ⟨b, 0, none⟩), uu] T (0, 0)) ∧
      Core F S' β' (over u O) (w2.setRow b #[.pointer (some ⟨b, 0, none⟩), v']) ∧ (F.rp S β O w).le (F.rp S' β' (over u O) (w2.setRow b #[.pointer (some ⟨b, 0, none⟩), v'])) := by
  unfold bappOp at h
  split at h
  · rename_i T' a l hn
    cases hb : (Nat.beq T T' && selfOk a n) with
    | false => rw [hb] at h; cases h
    | true =>
      rw [hb] at h; simp only [cond_true] at h
      simp only [Bool.and_eq_true] at hb
      obtain ⟨hT, hself⟩ := hb
      have hT := Nat.eq_of_beq_eq_true hT
      subst hT
      rw [appendOp_nat] at h
      simp only [Option.bind_eq_some_iff] at h
      obtain ⟨⟨av0, u0⟩, happ, h⟩ := h
      have hO := hlk n _ hn
      have hup := appendOp_upd happ
      have hasz : a.size = 1 := by
        unfold selfOk at hself
        split at hself
        · rfl
        · rfl
        · cases hself
      have hlsz : l.size = 1 := by
        rcases hup with ⟨_, _, _, _, ⟨_, _, rfl⟩, _⟩ | ⟨_, _, _, _, _, _, _, rfl, _⟩ <;> rfl
      obtain ⟨b, pa, v, hb1, hb2, hpa, hv⟩ := box_two hc hO hasz hlsz
      have hpa' : pa = .pointer none ∨ pa = .pointer (some ⟨b, 0, none⟩) := by
        unfold selfOk at hself
        split at hself
        · simp only [RelL, List.cons.injEq, and_true] at hpa; exact .inl hpa
        · rename_i m
          have := Nat.eq_of_beq_eq_true hself
          subst this
          unfold RelL at hpa; simp only [Fr.rp] at hpa; rw [hO] at hpa; simp only at hpa
          obtain ⟨b', h3, h4⟩ := hpa
          rw [hb1] at h3; simp only [Option.some.injEq, Prod.mk.injEq, and_true] at h3; subst h3
          simp only [List.cons.injEq, and_true] at h4
          exact .inr h4
        · cases hself
      have hselfrel : RelL (F.rp S β O w) (.ref n 0) [.pointer (some ⟨b, 0, none⟩)] := by
        unfold RelL; simp only [Fr.rp]; rw [hO]; exact ⟨b, hb1, rfl⟩
      -- the mark
      obtain ⟨hc1, le1⟩ := hc.write hO rfl (o' := .box T [.ref n 0, l]) (.inr ⟨_, _, rfl⟩) rfl hb1 (by intro e t xs hh; cases hh) (by intro e t xs hh; cases hh) #[.pointer (some ⟨b, 0, none⟩), v] (by
        intro q hle hbq hwq
        refine ⟨b, #[.pointer (some ⟨b, 0, none⟩), v], by rw [hbq]; exact hb1, by rw [hwq]; exact setRow_heap w b _ _ T (0, 0) hb2, [_], [v], rfl, RelL_le hle _ hselfrel, [v], [], rfl, RelL_le hle _ hv, rfl⟩)
      -- the append
      have hmn : ∀ m, l = .row m → m ≠ n := by
        rintro m rfl rfl
        rcases hup with ⟨_, _, _, _, ⟨_, _, he⟩, _⟩ | ⟨_, _, _, _, _, _, _, he, hm, _⟩
        · cases he
        · cases he; rw [hn] at hm; cases hm
      have hdn : d * 8 ≠ n := by rintro rfl; rw [hO] at hd; cases hd
      have hlk1 : ∀ m o, (fun m => if m = n then none else lk m) m = some o → upd O n (some (.box T [.ref n 0, l])) m = some o := by
        intro m o hm
        simp only at hm
        split at hm
        · cases hm
        · rename_i hne; rw [upd_ne _ _ _ _ hne]; exact hlk m o hm
      have happ1 : appendOp c (fun m => if m = n then none else lk m) d U l x two = some (av0, u0) := by
        rw [← happ]
        refine appendOp_lk ?_ ?_ ?_
        · intro m hm; show (if m = n then none else lk m) = _; rw [if_neg (hmn m hm)]
        · intro m hm; show (if m = n then none else lk m) = _; rw [if_neg (hxn m hm).2]
        · intro m lo hi hm; exact (hxv m lo hi hm).elim
      obtain ⟨v', w2, S', β', hrun, hc2, le2, hav⟩ := appendOp_run hE hc1 hlk1 (by rw [upd_ne _ _ _ _ hdn]; exact hd) hX (RelL_le le1 _ hv) (hx _ le1) happ1 U
      -- the new slice
      have hu0n : ∀ O' : Nat → Option AObj, over u0 O' n = O' n := by
        intro O'
        rcases hup with ⟨_, _, _, rfl, _, _⟩ | ⟨m, _, _, _, _, _, _, hl, _, rfl, _⟩
        · rw [over_cons, over_nil, upd_ne _ _ _ _ (Ne.symm hdn)]
        · rw [over_cons, over_cons, over_nil, upd_ne _ _ _ _ (Ne.symm (hmn m hl)), upd_ne _ _ _ _ (Ne.symm hdn)]
      have hO2 : over u0 (upd O n (some (.box T [.ref n 0, l]))) n = some (.box T [.ref n 0, l]) := by rw [hu0n, upd_same]
      have hy : ∃ y, av0 = .one y ∧ y ≠ .undef := by
        rcases hup with ⟨_, _, _, _, _, rfl⟩ | ⟨_, _, _, _, _, _, _, _, _, _, rfl⟩ <;> exact ⟨_, rfl, by simp⟩
      obtain ⟨y, rfl, hyu⟩ := hy
      have hyrel := hav.resolve_left hyu
      have hslice : ∃ A n m, v' = .slice A n m := by
        unfold RelL at hyrel
        rcases hup with ⟨_, _, _, rfl, _, hy⟩ | ⟨m, _, _, _, _, _, _, hl, _, rfl, hy⟩
        · cases hy
          simp only [Fr.rp] at hyrel
          rw [over_cons, over_nil, upd_same] at hyrel
          simp only [List.cons.injEq, and_true] at hyrel
          exact ⟨_, _, _, hyrel⟩
        · cases hy
          have hmd : d * 8 ≠ m := by
            rintro rfl
            rw [hlk _ _ ‹lk (d * 8) = _›] at hd; cases hd
          simp only [Fr.rp] at hyrel
          rw [over_cons, over_cons, over_nil, upd_ne _ _ _ _ hmd, upd_same] at hyrel
          simp only [List.cons.injEq, and_true] at hyrel
          exact ⟨_, _, _, hyrel⟩
      obtain ⟨b2, pa2, v2, g1, g2, g3, _⟩ := box_two hc2 hO2 rfl hlsz
      have hbb : b2 = b := by
        obtain ⟨o', ho', _, hβ⟩ := le2.obj n _ (show (F.rp S β (upd O n (some (.box T [.ref n 0, l]))) (w.setRow b #[.pointer (some ⟨b, 0, none⟩), v])).O n = _ from upd_same _ _ _)
        simp only [Fr.rp] at ho' hβ
        rw [hO2] at ho'; cases ho'
        rw [hβ rfl, hb1] at g1; simpa using g1.symm
      subst hbb
      have hpa2 : pa2 = .pointer (some ⟨b2, 0, none⟩) := by
        unfold RelL at g3; simp only [Fr.rp] at g3; rw [hO2] at g3; simp only at g3
        obtain ⟨b', h3, h4⟩ := g3
        rw [g1] at h3; simp only [Option.some.injEq, Prod.mk.injEq, and_true] at h3; subst h3
        simpa using h4
      subst hpa2
      have hself2 : RelL (F.rp S' β' (over u0 (upd O n (some (.box T [.ref n 0, l])))) w2) (.ref n 0) [.pointer (some ⟨b2, 0, none⟩)] := g3
      obtain ⟨hc3, le3⟩ := hc2.write hO2 rfl (o' := .box T [.ref n 0, y]) (.inr ⟨_, _, rfl⟩) rfl g1 (by intro e t xs hh; cases hh) (by intro e t xs hh; cases hh) #[.pointer (some ⟨b2, 0, none⟩), v'] (by
        intro q hle hbq hwq
        refine ⟨b2, #[.pointer (some ⟨b2, 0, none⟩), v'], by rw [hbq]; exact g1, by rw [hwq]; exact setRow_heap w2 b2 _ _ T (0, 0) g2, [_], [v'], rfl, RelL_le hle _ hself2, [v'], [], rfl, RelL_le hle _ hyrel, rfl⟩)
      simp only [two, Option.some.injEq, Prod.mk.injEq] at h
      obtain ⟨rfl, rfl⟩ := h
      have hOO : over ((n, .box T [.ref n 0, y]) :: u0) O = upd (over u0 (upd O n (some (.box T [.ref n 0, l])))) n (some (.box T [.ref n 0, y])) := by
        rw [over_cons]
        funext k
        by_cases hk : k = n
        · subst hk; rw [upd_same, upd_same]
        · rw [upd_ne _ _ _ _ hk, upd_ne _ _ _ _ hk]
          unfold over
          rw [upd_ne _ _ _ _ hk]
      rw [hOO]
      refine ⟨rfl, b2, pa, v, v', v2, w2, S', β', hb1, hb2, hpa', hrun, hslice, g2, hc3, ?_⟩
      refine le_trans_same (le_trans_same le1 le2 ?_) le3 (fun _ _ _ _ _ _ => ?_)
      · intro k o o' hk hk' hlive
        obtain ⟨o1, ho1, _, hβ⟩ := le1.obj k o hk
        obtain ⟨o2, ho2, _, hβ2⟩ := le2.obj k o1 ho1
        simp only [Fr.rp] at hk' ho2 hβ2 ⊢
        rw [hk'] at ho2; cases ho2
        exact hβ2 hlive
      · rename_i k o o' hk hk' hlive
        obtain ⟨o1, ho1, _, hβ⟩ := le1.obj k o hk
        obtain ⟨o2, ho2, hto2, hβ2⟩ := le2.obj k o1 ho1
        obtain ⟨o3, ho3, hto3, _⟩ := le3.obj k o2 ho2
        simp only [Fr.rp] at hk' ho2 ho3 hβ2 ⊢
        rw [hk'] at ho3; cases ho3
        refine hβ2 ?_
        cases o2 with
        | dead => simp only [AObj.to] at hto3; subst hto3; cases hlive
        | _ => rfl
  · cases h

theorem bapp_new {lk : Nat → Option AObj} {d : Nat} {T U : TypeId} {n : Nat} {x : Lf} {r av : AV} {u : Upd} (h : bappOp c lk d T U n x r two = some (av, u)) :
    (∃ o', (d * 8, o') ∈ u) ∧ ∃ a l, lk n = some (.box T [a, l]) := by
  unfold bappOp at h
  split at h
  · rename_i T' a l hn
    cases hb : (Nat.beq T T' && selfOk a n) with
    | false => rw [hb] at h; cases h
    | true =>
      rw [hb] at h; simp only [cond_true] at h
      simp only [Bool.and_eq_true] at hb
      have hT := Nat.eq_of_beq_eq_true hb.1
      subst hT
      rw [appendOp_nat] at h
      simp only [Option.bind_eq_some_iff] at h
      obtain ⟨⟨av0, u0⟩, happ, h⟩ := h
      refine ⟨?_, _, _, hn⟩
      rcases appendOp_upd happ with ⟨_, _, _, rfl, _, rfl⟩ | ⟨_, _, _, _, _, _, _, _, _, rfl, rfl⟩
      · simp only [two, Option.some.injEq, Prod.mk.injEq] at h
        obtain ⟨_, rfl⟩ := h
        exact ⟨_, List.mem_cons_of_mem _ List.mem_cons_self⟩
      · simp only [two, Option.some.injEq, Prod.mk.injEq] at h
        obtain ⟨_, rfl⟩ := h
        exact ⟨_, List.mem_cons_of_mem _ (List.mem_cons_of_mem _ List.mem_cons_self)⟩
  · cases h

theorem push_setRow (w : World) (b : Nat) (cs : Array Value) (o : Obj) (hb : b < w.heap.size) : ({ w with heap := w.heap.push o } : World).setRow b cs = { w.setRow b cs with heap := (w.setRow b cs).heap.push o } := by
  unfold World.setRow
  simp only
  congr 1
  apply Array.ext
  · simp
  · intro i h1 h2
    simp only [Array.getElem_modify, Array.getElem_push, Array.size_modify, Array.size_push] at h1 h2 ⊢
    by_cases hi : i < w.heap.size
    · simp [hi]
    · have : i ≠ b := by omega
      simp [hi, Ne.symm this]

theorem ref_ptr (hc : Core F S β O w) {n : Nat} {T : TypeId} {ls : List Lf} (hn : O n = some (.box T ls)) {b : Nat} (hb : (β n).1 = some (b, 0)) {v : Value} (h : RelAV (F.rp S β O w) (.one (.ref n 0)) v) : v = .pointer (some ⟨b, 0, none⟩) := by
  have h := h.resolve_left (by simp)
  unfold RelL at h; simp only [Fr.rp] at h; rw [hn] at h; simp only at h
  obtain ⟨b', h1, h2⟩ := h
  rw [hb] at h1; simp only [Option.some.injEq, Prod.mk.injEq, and_true] at h1; subst h1
  simpa using h2
theorem args_eq {args : Array Value} {l : List Value} (h : args.toList = l) : args = l.toArray := by
  apply Array.ext'; rw [h]

theorem bwrite_ok (hE : EnvOk P c) (hc : Core F S β O w) {lk : Nat → Option AObj} (hlk : ∀ n o, lk n = some o → O n = some o) {d : Nat} {f : FuncId} {T U X : TypeId} (hk : c.intr f = some (.bwrite T U X)) {vs : List AV} {args : Array Value}
    (hr : RelAVs (F.rp S β O w) vs args.toList) {av : AV} {u : Upd} (h : intrOp c I lk d (.bwrite T U X) vs two = some (av, u)) (hnew : ∀ n o', (n, o') ∈ u → n / 8 = d → n % 8 < 5 → O n = none) :
    Calls P f args w fun e w' => ∃ v S' β', e = .returned v ∧ Core F S' β' (over u O) w' ∧ (F.rp S β O w).le (F.rp S' β' (over u O) w') ∧ RelAV (F.rp S' β' (over u O) w') av v := by
  obtain ⟨_, hspec⟩ := hE.intr _ _ hk
  unfold intrOp at h
  split at h
  · rename_i T' U' X' n s heq
    cases heq
    cases hX : strOk c X with
    | false => rw [hX] at h; cases h
    | true =>
      rw [hX] at h; simp only [cond_true] at h
      obtain ⟨⟨o', hm⟩, a, l, hn⟩ := bapp_new h
      have hd := hnew _ _ hm (by omega) (by omega)
      obtain ⟨v1, r1, e1, h1, v2, r2, e2, h2, h3⟩ := hr
      simp only [RelAVs] at h3; subst h3; subst e2
      have hv2 : v2 = .string s := by
        have := h2.resolve_left (by simp)
        simpa [RelL, Rd] using this
      subst hv2
      obtain ⟨rfl, b, pa, v, v', uu, w2, S', β', g1, g2, g3, g4, gs, g5, g6, g7⟩ := bapp_core hE hc hlk hd (X := X) (by rw [hX]; simp) (vx := .string s) (fun q hq => RelL_le hq _ (h2.resolve_left (by simp))) (by intro m hm; cases hm) (by intro m lo hi hm; cases hm) h
      have hv1 := ref_ptr hc (hlk _ _ hn) g1 h1
      subst hv1
      have := args_eq e1
      subst this
      refine (hspec w w2 b pa v v' uu s g2 g3 g4 gs g5).mono ?_
      rintro e w' ⟨rfl, rfl⟩
      refine ⟨_, S', β', rfl, g6, g7, _, rfl, ?_⟩
      exact ⟨_, _, rfl, ⟨_, rfl, .inr rfl⟩, _, _, rfl, ⟨_, rfl, .inl rfl⟩, rfl⟩
  all_goals first | contradiction | cases h

theorem bbyte_ok (hE : EnvOk P c) (hc : Core F S β O w) {lk : Nat → Option AObj} (hlk : ∀ n o, lk n = some o → O n = some o) {d : Nat} {f : FuncId} {T U X e : TypeId} (hk : c.intr f = some (.bbyte T U X e)) {vs : List AV} {args : Array Value}
    (hr : RelAVs (F.rp S β O w) vs args.toList) {av : AV} {u : Upd} (h : intrOp c I lk d (.bbyte T U X e) vs two = some (av, u)) (hnew : ∀ n o', (n, o') ∈ u → n / 8 = d → n % 8 < 5 → O n = none) :
    Calls P f args w fun e w' => ∃ v S' β', e = .returned v ∧ Core F S' β' (over u O) w' ∧ (F.rp S β O w).le (F.rp S' β' (over u O) w') ∧ RelAV (F.rp S' β' (over u O) w') av v := by
  obtain ⟨_, hspec⟩ := hE.intr _ _ hk
  unfold intrOp at h
  split at h
  · contradiction
  · rename_i T' U' X' e' n x heq
    cases heq
    cases hX : slOk c X with
    | false => rw [hX] at h; cases h
    | true =>
      rw [hX] at h; simp only [cond_true] at h
      rw [bappOp_nat] at h
      simp only [Option.bind_eq_some_iff, two, Option.some.injEq, Prod.mk.injEq] at h
      obtain ⟨⟨av1, u1⟩, h, rfl, rfl⟩ := h
      have h : bappOp c (fun k => bif Nat.beq k (d * 8 + 1) then some (.row e (.int .u8) [x] false) else lk k) d T U n (.row (d * 8 + 1)) (.one .undef) two = some (av1, u1) := h
      obtain ⟨⟨o', hm⟩, a, l, hn⟩ := bapp_new h
      have hd := hnew _ _ (List.mem_append_left _ hm) (by omega) (by omega)
      have hd1 := hnew (d * 8 + 1) _ (List.mem_append_right _ List.mem_cons_self) (by omega) (by omega)
      have hne : n ≠ d * 8 + 1 := by
        rintro rfl
        simp only [Nat.beq_refl, cond_true] at hn; cases hn
      have hn' : lk n = some (.box T [a, l]) := by
        have hb : Nat.beq n (d * 8 + 1) = false := by
          cases hq : Nat.beq n (d * 8 + 1)
          · rfl
          · exact absurd (Nat.eq_of_beq_eq_true hq) hne
        rw [hb] at hn; exact hn
      obtain ⟨v1, r1, e1, h1, v2, r2, e2, h2, h3⟩ := hr
      simp only [RelAVs] at h3; subst h3; subst e2
      have hv2 : v2 = .int .u8 x := by
        have := h2.resolve_left (by simp)
        simpa [RelL, Rd] using this
      subst hv2
      obtain ⟨hc1, le1⟩ := hc.new hd1 (.row e (.int .u8) [x] false) (by intro _ _ _ hh; cases hh) (.cells #[.int .u8 x] e (0, 0)) 1 (by
        intro q hq hb hw
        refine .inr ⟨w.heap.size, 0, #[.int .u8 x], [.int .u8 x], [], by rw [hb], hw, by rw [hb]; exact Nat.le_refl _, rfl, ⟨[.int .u8 x], [], rfl, rfl, rfl⟩, by rw [hb]; exact Nat.le_refl _, Nat.zero_le _, ?_⟩
        intro v hv; simp at hv; subst hv; rfl)
      have hx : RelL (F.rp S (upd β (d * 8 + 1) (some (w.heap.size, 0), 1)) (upd O (d * 8 + 1) (some (.row e (.int .u8) [x] false))) { w with heap := w.heap.push (.cells #[.int .u8 x] e (0, 0)) }) (.row (d * 8 + 1)) [.slice (some ⟨w.heap.size, 0, none⟩) 1 1] := by
        unfold RelL; simp only [Fr.rp, upd_same]; rfl
      have hlk1 : ∀ m o, (fun k => bif Nat.beq k (d * 8 + 1) then some (AObj.row e (.int .u8) [x] false) else lk k) m = some o → upd O (d * 8 + 1) (some (.row e (.int .u8) [x] false)) m = some o := by
        intro m o hm
        simp only at hm
        cases hq : Nat.beq m (d * 8 + 1)
        · rw [hq] at hm
          have : m ≠ d * 8 + 1 := by rintro rfl; simp [Nat.beq_refl] at hq
          rw [upd_ne _ _ _ _ this]; exact hlk _ _ hm
        · rw [hq] at hm
          rw [Nat.eq_of_beq_eq_true hq, upd_same]; exact hm
      obtain ⟨rfl, b, pa, v, v', uu, w2, S', β', g1, g2, g3, g4, gs, g5, g6, g7⟩ := bapp_core hE hc1 hlk1 (by rw [upd_ne _ _ _ _ (by omega)]; exact hd) (X := X) (by rw [hX]; simp) (vx := .slice (some ⟨w.heap.size, 0, none⟩) 1 1) (fun q hq => RelL_le hq _ hx)
        (by intro m hm; cases hm; exact ⟨by simp [Nat.beq_refl], Ne.symm hne⟩) (by intro m lo hi hm; cases hm) h
      have hOn := hlk _ _ hn'
      rw [upd_ne _ _ _ _ hne] at g1
      obtain ⟨b', arr, k1, k2, _⟩ := hc.obj n _ hOn
      simp only [Fr.rp] at k1 k2
      rw [g1] at k1; simp only [Option.some.injEq, Prod.mk.injEq, and_true] at k1; subst k1
      have hblt : b < w.heap.size := (Array.getElem?_eq_some_iff.1 k2).1
      have hv1 := ref_ptr hc hOn g1 h1
      subst hv1
      have := args_eq e1
      subst this
      have g2' : w.heap[b]? = some (.cells #[pa, v] T (0, 0)) := by
        rw [← g2]; exact (getElem?_push_lt _ _ _ hblt).symm
      rw [push_setRow _ _ _ _ hblt] at g4
      refine (hspec w w2 b pa v v' uu x g2' g3 g4 gs g5).mono ?_
      rintro e0 w' ⟨rfl, rfl⟩
      rw [over_append, over_cons, over_nil]
      refine ⟨_, S', β', rfl, g6, le_trans_same le1 g7 ?_, .inl rfl⟩
      intro k o1 o2 hk hk2 hlive
      obtain ⟨o3, ho3, _, hβ⟩ := le1.obj k o1 hk
      obtain ⟨o4, ho4, hto4, hβ4⟩ := g7.obj k o3 ho3
      simp only [Fr.rp] at hk hk2 ho3 ho4 hβ hβ4 ⊢
      rw [hk2] at ho4; cases ho4
      rw [hβ4 hlive]
      exact upd_ne _ _ _ _ (by rintro rfl; rw [hd1] at hk; cases hk)
  all_goals first | contradiction | cases h

theorem kill_core (hc : Core F S β O w) {m : Nat} {e : TypeId} {t : Ty} {xs : List t.V} (hm : O m = some (.row e t xs false)) {w' : World} (h1 : w'.os = w.os) (h2 : w'.tape = w.tape) (h3 : w'.output = w.output) (h3d : w.drawn ≤ w'.drawn) (h4 : w.heap.size ≤ w'.heap.size)
    (hkeep : ∀ k, k < w.heap.size → (∀ off, (β m).1 ≠ some (k, off)) → w'.heap[k]? = w.heap[k]?) :
    Core F S β (upd O m (some .dead)) w' ∧ (F.rp S β O w).le (F.rp S β (upd O m (some .dead)) w') := by
  refine hc.change (fun k => k = m) h1 h2 h3 h3d h4 (fun k hk hb => hkeep k hk fun off => hb m _ off hm rfl rfl) (fun _ _ h => h) ?_ ?_ ?_ ?_ ?_ ?_ (fun _ _ h => .inl h) ?_ ?_ ?_
  · intro b i v hs hv
    rw [← hv]; refine cellAt_block (hkeep b (hc.dom b i hs) fun off hb => ?_)
    obtain ⟨_, _, _, h, _⟩ := hc.still b i m _ off hs hm rfl hb
    cases h
  · intro k hk; exact ⟨upd_ne _ _ _ _ hk, rfl⟩
  · rintro k o hO rfl
    rw [hm] at hO; cases hO
    exact ⟨.dead, upd_same _ _ _, .inl rfl, fun h => by cases h⟩
  · rintro _ k o hO rfl
    rw [upd_same] at hO; cases hO; trivial
  · rintro k o b off rfl hO hl _
    rw [upd_same] at hO; cases hO; cases hl
  · rintro k j o o' b x y rfl hO _ hl
    rw [upd_same] at hO; cases hO; cases hl
  · intro b i hs; exact Nat.lt_of_lt_of_le (hc.dom b i hs) h4
  · intro b i k o off hs hO hl hb
    by_cases hk : k = m
    · subst hk; rw [upd_same] at hO; cases hO; cases hl
    · rw [upd_ne _ _ _ _ hk] at hO; exact hc.still b i k o off hs hO hl hb
  · rintro k e t xs b off i rfl hO
    rw [upd_same] at hO; cases hO

theorem bytes_cells {S : CellSet} {w : World} : ∀ {cs : List Value} {xs : List Int}, RdsOf (Rd S w (.int .u8)) cs xs → (∀ x ∈ xs, 0 ≤ x ∧ x < 256) → cs = (xs.map fun n => UInt8.ofNat n.toNat).map fun b => .int .u8 (b.toNat : Int)
  | _, [], h, _ => h
  | _, x :: xs, ⟨c, d, e, h1, h2⟩, hb => by
    subst e
    have hx := hb x (by simp)
    simp only [Rd] at h1; subst h1
    rw [bytes_cells h2 (fun y hy => hb y (by simp [hy]))]
    have : ((UInt8.ofNat x.toNat).toNat : Int) = x := by
      rw [UInt8.toNat_ofNat']; omega
    simp only [List.map_cons, List.singleton_append, this]

theorem bstr_ok (hE : EnvOk P c) (hc : Core F S β O w) {lk : Nat → Option AObj} (hlk : ∀ n o, lk n = some o → O n = some o) {d : Nat} {f : FuncId} {T e : TypeId} (hk : c.intr f = some (.bstr T e)) {vs : List AV} {args : Array Value}
    (hr : RelAVs (F.rp S β O w) vs args.toList) {av : AV} {u : Upd} (h : intrOp c I lk d (.bstr T e) vs two = some (av, u)) :
    Calls P f args w fun e w' => ∃ v S' β', e = .returned v ∧ Core F S' β' (over u O) w' ∧ (F.rp S β O w).le (F.rp S' β' (over u O) w') ∧ RelAV (F.rp S' β' (over u O) w') av v := by
  obtain ⟨_, hspec⟩ := hE.intr _ _ hk
  unfold intrOp at h
  split at h
  · contradiction
  · contradiction
  · rename_i T' e' n heq
    cases heq
    unfold bstrOp at h
    split at h
    · rename_i T' a l hn
      cases hb : (Nat.beq T T' && selfOk a n) with
      | false => rw [hb] at h; cases h
      | true =>
        rw [hb] at h; simp only [cond_true] at h
        simp only [Bool.and_eq_true] at hb
        obtain ⟨hT, hself⟩ := hb
        have hT := Nat.eq_of_beq_eq_true hT
        subst hT
        have hO := hlk n _ hn
        have hasz : a.size = 1 := by
          unfold selfOk at hself
          split at hself
          · rfl
          · rfl
          · cases hself
        obtain ⟨v1, r1, e1, h1, h3⟩ := hr
        simp only [RelAVs] at h3; subst h3
        split at h
        · rename_i e0 t0
          simp only [two, Option.some.injEq, Prod.mk.injEq] at h
          obtain ⟨rfl, rfl⟩ := h
          obtain ⟨b, pa, v, g1, g2, _, g4⟩ := box_two hc hO hasz rfl
          have hv1 := ref_ptr hc hO g1 h1
          subst hv1
          have := args_eq e1
          subst this
          simp only [RelL, List.cons.injEq, and_true] at g4
          refine (hspec w b pa v [] (by simp) g2 (.inl ⟨g4, rfl⟩)).mono ?_
          rintro e w' ⟨rfl, k1, k2, k3, k3d, k4, k5⟩
          obtain ⟨k6, k7⟩ := grown_core hc k1 k2 k3 k3d k4 (fun k hk => k5 k hk fun g o m n hv => by rw [g4] at hv; cases hv)
          rw [over_nil]
          exact ⟨_, S, β, rfl, k6, k7, .inr rfl⟩
        · rename_i m
          split at h
          · rename_i e0 t xs hm
            cases he : Nat.beq e e0 with
            | false => rw [he] at h; cases h
            | true =>
              rw [he] at h
              have he := Nat.eq_of_beq_eq_true he
              subst he
              simp only [cond_true, bindD, Option.bind_eq_some_iff, two, Option.some.injEq, Prod.mk.injEq] at h
              obtain ⟨ys, hys, st, hst, rfl, rfl⟩ := h
              obtain ⟨et, hys⟩ := castV_len hys
              cases et
              have hys : xs = ys := hys
              subst hys
              unfold bytesOf at hst
              split at hst
              · rename_i hall
                simp only [Bool.and_eq_true] at hall
                obtain ⟨hall, hlen⟩ := hall
                have hlen := Nat.le_of_ble_eq_true hlen
                simp only [Option.some.injEq] at hst
                subst hst
                have hall : ∀ x ∈ xs, 0 ≤ x ∧ x < 256 := by
                  intro x hx
                  have := List.all_eq_true.1 hall x hx
                  simpa using this
                obtain ⟨b, pa, v, g1, g2, _, g4⟩ := box_two hc hO hasz rfl
                have hv1 := ref_ptr hc hO g1 h1
                subst hv1
                have := args_eq e1
                subst this
                have hOm := hlk m _ hm
                unfold RelL at g4; simp only [Fr.rp] at g4; rw [hOm] at g4; simp only [List.cons.injEq, and_true] at g4
                have hrow := hc.obj m _ hOm
                have hsp : (v = .slice none 0 0 ∧ (xs.map fun n => UInt8.ofNat n.toNat) = []) ∨ ∃ g o cap arr rest, g ≠ b ∧ v = .slice (some ⟨g, o, none⟩) (xs.map fun n => UInt8.ofNat n.toNat).length cap ∧ w.heap[g]? = some (.cells arr e (0, 0)) ∧
                    (xs.map fun n => UInt8.ofNat n.toNat).length ≤ cap ∧ arr.toList.drop o = ((xs.map fun n => UInt8.ofNat n.toNat).map fun x => .int .u8 x.toNat) ++ rest ∧ o + cap ≤ arr.size := by
                  rcases hrow with ⟨q1, rfl⟩ | ⟨g, o, arr, cs, rest, q1, q2, q3, q4, q5, q6, _⟩
                  · simp only [Fr.rp] at q1
                    exact .inl ⟨by rw [g4, q1]; rfl, rfl⟩
                  · simp only [Fr.rp] at q1 q2 q3 q5 q6
                    refine .inr ⟨g, o, (β m).2, arr, rest, ?_, ?_, q2, by simpa using q3, ?_, by simpa [Ty.size] using q6⟩
                    · rintro rfl
                      have := hc.apart m n _ _ g o 0 hOm hO rfl rfl q1 g1
                      subst this
                      rw [hO] at hOm; cases hOm
                    · rw [g4, q1]; simp [addrOf]
                    · rw [q4, bytes_cells q5 hall]
                refine (hspec w b pa v _ (by simpa using hlen) g2 hsp).mono ?_
                rintro e w' ⟨rfl, k1, k2, k3, k3d, k4, k5⟩
                obtain ⟨k6, k7⟩ := kill_core hc hOm k1 k2 k3 k3d k4 (fun k hk hne => k5 k hk fun g o m' n' hv => by
                  rintro rfl
                  rw [g4] at hv
                  cases hq : (β m).1 with
                  | none => rw [hq] at hv; cases hv
                  | some p =>
                    rw [hq] at hv
                    simp only [addrOf, Value.slice.injEq, Option.some.injEq, Addr.mk.injEq] at hv
                    obtain ⟨⟨rfl, rfl, _⟩, _⟩ := hv
                    exact hne p.2 hq)
                rw [over_cons, over_nil]
                exact ⟨_, S, β, rfl, k6, k7, .inr rfl⟩
              · cases hst
          · cases h
        · cases h
    · cases h
  all_goals first | contradiction | cases h

theorem adopt_core (hc : Core F S β O w) {d g cap : Nat} {e : TypeId} {t : Ty} {arr : Array Value} (hd : O d = none) {w' : World} (h1 : w'.os = w.os) (h2 : w'.tape = w.tape) (h3 : w'.output = w.output) (h3d : w.drawn ≤ w'.drawn) (h4 : w.heap.size ≤ w'.heap.size)
    (hkeep : ∀ k, k < w.heap.size → w'.heap[k]? = w.heap[k]?) (hg : w.heap.size ≤ g) (hgh : w'.heap[g]? = some (.cells arr e (0, 0))) (hcap : cap * t.size ≤ arr.size) (hone : ∀ v ∈ arr.toList, v.oneCell' = true) :
    Core F S (upd β d (some (g, 0), cap)) (upd O d (some (.row e t [] false))) w' ∧ (F.rp S β O w).le (F.rp S (upd β d (some (g, 0), cap)) (upd O d (some (.row e t [] false))) w') := by
  refine hc.change (fun k => k = d) h1 h2 h3 h3d h4 (fun k hk _ => hkeep k hk) (fun _ _ h => h) ?_ ?_ ?_ ?_ ?_ ?_ (fun _ _ h => .inl h) ?_ ?_ ?_
  · intro b i v hs hv; rw [← hv]; exact cellAt_block (hkeep b (hc.dom b i hs))
  · intro k hk; exact ⟨upd_ne _ _ _ _ hk, upd_ne _ _ _ _ hk⟩
  · rintro k o hO rfl; rw [hd] at hO; cases hO
  · rintro _ k o hO rfl
    rw [upd_same] at hO; cases hO
    refine .inr ⟨g, 0, arr, [], arr.toList, by simp [Fr.rp, upd_same], hgh, by simp, by simp, rfl, ?_, Nat.zero_le _, hone⟩
    simp only [Fr.rp, upd_same]; omega
  · rintro k o b off rfl hO _ hb
    rw [upd_same] at hb
    simp only [Option.some.injEq, Prod.mk.injEq] at hb
    obtain ⟨rfl, _⟩ := hb
    exact .inl (Nat.le_trans hc.size hg)
  · rintro k j o o' b x y rfl hO hO' hl hl' hb hb'
    by_cases hj : j = k
    · exact hj.symm
    · rw [upd_same] at hb
      simp only [Option.some.injEq, Prod.mk.injEq] at hb
      obtain ⟨rfl, _⟩ := hb
      rw [upd_ne _ _ _ _ hj] at hO' hb'
      have := ObjR_block (hc.obj j o' hO') hl' hb'
      exact absurd (show g < w.heap.size from this) (by omega)
  · intro b i hs; exact Nat.lt_of_lt_of_le (hc.dom b i hs) h4
  · intro b i k o off hs hO hl hb
    by_cases hk : k = d
    · subst hk
      rw [upd_same] at hb
      simp only [Option.some.injEq, Prod.mk.injEq] at hb
      obtain ⟨rfl, _⟩ := hb
      have := hc.dom _ _ hs
      omega
    · rw [upd_ne _ _ _ _ hk] at hO hb
      exact hc.still b i k o off hs hO hl hb
  · rintro k e t xs b off i rfl hO
    rw [upd_same] at hO; cases hO

theorem grow_intr_ok (hE : EnvOk P c) (hc : Core F S β O w) {lk : Nat → Option AObj} {d : Nat} {f : FuncId} {T : TypeId} (hk : c.intr f = some (.grow T)) {vs : List AV} {args : Array Value}
    (hr : RelAVs (F.rp S β O w) vs args.toList) {av : AV} {u : Upd} (h : intrOp c I lk d (.grow T) vs two = some (av, u)) (hnew : ∀ n o', (n, o') ∈ u → n / 8 = d → n % 8 < 5 → O n = none) :
    Calls P f args w fun e w' => ∃ v S' β', e = .returned v ∧ Core F S' β' (over u O) w' ∧ (F.rp S β O w).le (F.rp S' β' (over u O) w') ∧ RelAV (F.rp S' β' (over u O) w') av v := by
  obtain ⟨_, hspec⟩ := hE.intr _ _ hk
  unfold intrOp at h
  split at h
  · contradiction
  · contradiction
  · contradiction
  · rename_i T' e t n heq
    cases heq
    simp only [Option.bind_eq_some_iff] at h
    obtain ⟨te, hte, h⟩ := h
    split at h
    · rename_i e' hde
      cases hb : (Nat.beq e e' && eltOk c T t) with
      | false => rw [hb] at h; cases h
      | true =>
        rw [hb] at h
        simp only [Bool.and_eq_true] at hb
        obtain ⟨he, hel⟩ := hb
        have he := Nat.eq_of_beq_eq_true he
        subst he
        simp only [cond_true] at h
        by_cases hn : n < 0
        · rw [decide_eq_true hn] at h; cases h
        · rw [decide_eq_false hn] at h
          have h : (bindD (Go.Proofs.R.grow n.toNat) fun _ => two (.one (.row (d * 8))) [(d * 8, .row e t [] false)]) = some (av, u) := h
          simp only [bindD, Option.bind_eq_some_iff, two, Option.some.injEq, Prod.mk.injEq] at h
          obtain ⟨_, hg, rfl, rfl⟩ := h
          have hgl := grow_le hg
          unfold mostLen at hgl
          have hn0 : (0 : Int) ≤ n := Int.not_lt.1 hn
          have hn1 : (n : Int) ≤ 4294967296 := by
            have h4 : ((n : Int).toNat : Int) = n := Int.toNat_of_nonneg hn0
            have h5 : ∀ m : Nat, m ≤ 4294967296 → (m : Int) ≤ 4294967296 := fun m hm => by omega
            rw [← h4]; exact h5 _ hgl
          have hd := hnew _ _ List.mem_cons_self (by omega) (by omega)
          obtain ⟨e1, ee, hTu, hee, hsz, hpos, te', hte', hde'⟩ := eltOk_spec hE hel
          rw [hte] at hte'; cases hte'
          rw [hde] at hde'; cases hde'
          obtain ⟨i, zv, hi, hisz, _⟩ := (hE.te e ee hee).info
          obtain ⟨v1, r1, e1, h1, v2, r2, e2, h2, h3⟩ := hr
          simp only [RelAVs] at h3; subst h3; subst e2
          have hv1 : v1 = .slice none 0 0 := by
            have := h1.resolve_left (by simp)
            simpa [RelL] using this
          have hv2 : v2 = .int .i64 n := by
            have := h2.resolve_left (by simp)
            simpa [RelL, Rd] using this
          subst hv1; subst hv2
          have := args_eq e1
          subst this
          refine (hspec e hTu w n hn0 hn1).mono ?_
          rintro ex w' ⟨A, cap, rfl, k1, k2, k3, k3d, k4, k5, k6⟩
          have hov : over [(d * 8, AObj.row e t ([] : List t.V) false)] O = upd O (d * 8) (some (.row e t [] false)) := by rw [over_cons, over_nil]
          rcases k6 with ⟨rfl, rfl⟩ | ⟨g, arr, i', rfl, q1, q2, q3, q4, q5⟩
          · obtain ⟨c1, l1⟩ := grown_core hc k1 k2 k3 k3d k4 k5
            obtain ⟨c2, l2⟩ := c1.newNil (e := e) (t := t) hd
            try rw [hov] at c2 l2
            rw [hov]
            refine ⟨_, _, _, rfl, c2, le_trans_same l1 l2 ?_, .inr ?_⟩
            · intro k o o' hk hk' _
              simp only [Fr.rp] at hk hk' ⊢
              have hkd : k ≠ d * 8 := by rintro rfl; rw [hd] at hk; cases hk
              exact upd_ne _ _ _ _ hkd
            · unfold RelL; simp only [Fr.rp, upd_same]; rfl
          · rw [hi] at q3; cases q3
            obtain ⟨c2, l2⟩ := adopt_core (t := t) hc hd k1 k2 k3 k3d k4 k5 q1 q2 (by rw [← hsz, ← hisz]; exact q4) q5
            rw [hov]
            refine ⟨_, _, _, rfl, c2, l2, .inr ?_⟩
            unfold RelL; simp only [Fr.rp, upd_same]; rfl
    · cases h
  all_goals first | contradiction | cases h

theorem RdsOf_rev {α : Type} {R : List Value → α → Prop} (h1 : ∀ c x, R c x → c.length = 1) : ∀ {cs : List Value} {xs : List α}, RdsOf R cs xs → RdsOf R cs.reverse xs.reverse
  | cs, [], h => by simp only [RdsOf] at h; subst h; rfl
  | cs, x :: xs, ⟨c, d, e, h2, h3⟩ => by
    subst e
    have hl := h1 _ _ h2
    match c, hl with
    | [v], _ =>
      rw [List.singleton_append, List.reverse_cons, List.reverse_cons]
      exact RdsOf_append (RdsOf_rev h1 h3) ⟨[v], [], rfl, h2, rfl⟩

theorem rev_intr_ok (hE : EnvOk P c) (hc : Core F S β O w) {lk : Nat → Option AObj} (hlk : ∀ n o, lk n = some o → O n = some o) {d : Nat} {f : FuncId} {T : TypeId} (hk : c.intr f = some (.rev T)) {vs : List AV} {args : Array Value}
    (hr : RelAVs (F.rp S β O w) vs args.toList) {av : AV} {u : Upd} (h : intrOp c I lk d (.rev T) vs two = some (av, u)) :
    Calls P f args w fun e w' => ∃ v S' β', e = .returned v ∧ Core F S' β' (over u O) w' ∧ (F.rp S β O w).le (F.rp S' β' (over u O) w') ∧ RelAV (F.rp S' β' (over u O) w') av v := by
  obtain ⟨_, hspec0, hspec⟩ := hE.intr _ _ hk
  unfold intrOp at h
  split at h
  · contradiction
  · contradiction
  · contradiction
  · contradiction
  · rename_i T' l heq
    cases heq
    obtain ⟨v1, r1, e1, h1, h2⟩ := hr
    simp only [RelAVs] at h2; subst h2
    have ha : args = #[v1] := by
      apply Array.toList_inj.1; rw [e1]
    subst ha
    split at h
    · rename_i e t
      cases hb : slOk c T with
      | false => rw [hb] at h; cases h
      | true =>
        rw [hb] at h
        simp only [cond_true, two, Option.some.injEq, Prod.mk.injEq] at h
        obtain ⟨rfl, rfl⟩ := h
        have hv1 : v1 = .slice none 0 0 := by
          have := h1.resolve_left (by simp)
          simpa [RelL] using this
        subst hv1
        refine (hspec0 w none 0).mono ?_
        rintro ex w' ⟨rfl, rfl⟩
        exact ⟨_, S, β, rfl, hc, le_refl _, ⟨_, rfl, rfl⟩⟩
    · rename_i n
      split at h
      · rename_i e t xs hl
        cases hb : (eltOk c T t && Nat.beq t.size 1) with
        | false => rw [hb] at h; cases h
        | true =>
          rw [hb] at h
          simp only [Bool.and_eq_true] at hb
          have h1s := Nat.eq_of_beq_eq_true hb.2
          simp only [cond_true, bindD, Option.bind_eq_some_iff, two, Option.some.injEq, Prod.mk.injEq] at h
          obtain ⟨_, hgr, rfl, rfl⟩ := h
          have hgl := grow_le hgr
          unfold mostLen at hgl
          have hO := hlk _ _ hl
          have hv1 := h1.resolve_left (by simp)
          unfold RelL at hv1
          rw [show (F.rp S β O w).O n = some (.row e t xs false) from hO] at hv1
          simp only [Fr.rp, List.cons.injEq, and_true] at hv1
          subst hv1
          have hov : over [(n, AObj.row e t (revL xs) false)] O = upd O n (some (.row e t (revL xs) false)) := by rw [over_cons, over_nil]
          rw [hov]
          rcases hc.obj n _ hO with ⟨g1, g2⟩ | ⟨b, o, arr, cs, rest, g1, g2, g3, g4, g5, g6, g7, g8⟩
          · subst g2
            have g1 : β n = (none, 0) := g1
            refine (hspec0 w _ _).mono ?_
            rintro ex w' ⟨rfl, rfl⟩
            have hsame : upd O n (some (.row e t (revL ([] : List t.V)) false)) = O := by
              funext m
              by_cases hm : m = n
              · subst hm; rw [upd_same, hO]; rfl
              · rw [upd_ne _ _ _ _ hm]
            rw [hsame]
            exact ⟨_, S, β, rfl, hc, le_refl _, ⟨_, rfl, rfl⟩⟩
          · have g1 : (β n).1 = some (b, o) := g1
            have g2 : w.heap[b]? = some (.cells arr e (0, 0)) := g2
            have hcl : cs.length = xs.length := by
              have := RdsOf_len (fun _ _ => Rd_len t) g5
              rw [h1s] at this; omega
            have harr : arr = (arr.toList.take o ++ (cs ++ rest)).toArray := by
              apply Array.toList_inj.1
              rw [← g4]; simp
            have hpre : (arr.toList.take o).length = o := by simp; omega
            have hsz : xs.length ≤ 9223372036854775807 := by omega
            have hone : ∀ v ∈ cs, v.oneCell' = true := RdsOf_one (fun _ _ => Rd_one t) g5
            have := hspec w b (β n).2 e (arr.toList.take o) cs rest (by rw [← harr]; exact g2) (by omega) hone
            rw [hpre, hcl] at this
            rw [g1]
            refine this.mono ?_
            rintro ex w' ⟨rfl, m, hmd, rfl⟩
            obtain ⟨c1, l1⟩ := hc.write hO rfl (o' := .row e t (revL xs) false) (.inr ⟨_, _, _, rfl, by simp [revL]⟩) rfl g1 (by intro e t xs hh; cases hh) (by intro e t xs hh; cases hh)
              (arr.toList.take o ++ (cs.reverse ++ rest)).toArray (by
                intro q le hqb hqw
                refine .inr ⟨b, o, (arr.toList.take o ++ (cs.reverse ++ rest)).toArray, cs.reverse, rest, by rw [hqb]; exact g1, ?_, ?_, ?_, ?_, ?_, ?_, ?_⟩
                · rw [hqw]; exact setRow_heap w b arr _ e (0, 0) g2
                · rw [hqb]; show (revL xs).length ≤ (β n).2; rw [show (revL xs).length = xs.length from List.length_reverse]; exact g3
                · simp [hpre]
                  try rw [List.drop_append_of_le_length (by omega)]
                · exact RdsOf_rev (fun c x hx => by rw [Rd_len t hx, h1s]) (RdsOf_mono (fun _ _ => Rd_mono le.S (fun b i v hs => le.cells b i v (.inl hs)) t) g5)
                · rw [hqb]
                  have : arr.size = (arr.toList.take o ++ (cs.reverse ++ rest)).toArray.size := by
                    conv => lhs; rw [harr]
                    simp
                  rw [← this]; exact g6
                · have : arr.size = (arr.toList.take o ++ (cs.reverse ++ rest)).toArray.size := by
                    conv => lhs; rw [harr]
                    simp
                  rw [← this]; exact g7
                · intro v hv
                  refine g8 v ?_
                  rw [harr]
                  simpa using hv)
            obtain ⟨c2, l2⟩ := c1.redrawn m hmd
            exact ⟨_, S, β, rfl, c2, le_trans_same l1 l2 (fun _ _ _ _ _ _ => rfl), ⟨_, rfl, rfl⟩⟩
      · cases h
    · cases h
  all_goals first | contradiction | cases h

theorem intrOp_ok (hE : EnvOk P c) (hI : Snd P c I) (hc : Core F S β O w) {lk : Nat → Option AObj} (hlk : ∀ n o, lk n = some o → O n = some o) {d : Nat} {f : FuncId} {k : Intr} (hk : c.intr f = some k) {vs : List AV} {args : Array Value}
    (hr : RelAVs (F.rp S β O w) vs args.toList) {av : AV} {u : Upd} (h : intrOp c I lk d k vs two = some (av, u)) (hnew : ∀ n o', (n, o') ∈ u → n / 8 = d → n % 8 < 5 → O n = none) :
    (callFunc f args).run P w = .ok (.enter f args) w ∧ Calls P f args w fun e w' => ∃ v S' β', e = .returned v ∧ Core F S' β' (over u O) w' ∧ (F.rp S β O w).le (F.rp S' β' (over u O) w') ∧ RelAV (F.rp S' β' (over u O) w') av v := by
  refine ⟨(hE.intr _ _ hk).1 args w, ?_⟩
  cases k with
  | bwrite T U X => exact bwrite_ok hE hc hlk hk hr h hnew
  | bbyte T U X e => exact bbyte_ok hE hc hlk hk hr h hnew
  | bstr T e => exact bstr_ok hE hc hlk hk hr h
  | grow T => exact grow_intr_ok hE hc hk hr h hnew
  | rev T => exact rev_intr_ok hE hc hlk hk hr h
  | sort T ag st => exact sort_intr_ok hE hI hc hlk hk hr h (.inl ⟨_, _, _, rfl⟩)
  | sortF U T j g => exact sort_intr_ok hE hI hc hlk hk hr h (.inr (.inl ⟨_, _, _, _, rfl⟩))
  | sortS U T i j g mi mj er => exact sort_intr_ok hE hI hc hlk hk hr h (.inr (.inr ⟨_, _, _, _, _, _, _, _, rfl⟩))
end
end Go.Proofs.R

/- Maps with plain keys and values. -/
namespace Go.Proofs.R
open Go

section
variable {P : Program} {c : Ctx}
variable {F : Fr} {S : CellSet} {β : Nat → Place} {O : Nat → Option AObj} {w : World} {a : Act} {σ : List (Nat × AV)} {o : Oper} {next : Act → World → Prop} {Q : Exit → Act → World → Prop}

/-- a type's description, where its values are plain -/
def PlainD : Ty → TypeDesc → Prop
  | .int k, d => d = .int k
  | .bool, d => d = .bool
  | .str, d => d = .string
  | _, _ => False

theorem plainD_of {P : Program} {c : Ctx} {T : TypeId} {te : TE} (h : TOk P c T te) {t : Ty} (ht : tyOfD te.d = some t) : ∃ d, P.underlying T = some d ∧ PlainD t d := by
  have hu := h.under
  unfold tyOfD at ht
  split at ht
  · rename_i k hk; cases ht; rw [hk] at hu; exact ⟨_, hu, rfl⟩
  · rename_i hk; cases ht; rw [hk] at hu; exact ⟨_, hu, rfl⟩
  · rename_i hk; cases ht; rw [hk] at hu; exact ⟨_, hu, rfl⟩
  · cases ht
theorem plain_agg {te : TE} {t : Ty} (ht : tyOfD te.d = some t) : aggOf te = false := by
  unfold tyOfD at ht
  unfold aggOf
  split at ht <;> first | (rename_i h; rw [h]) | cases ht
theorem plain_rd {S : CellSet} {w : World} {t : Ty} {d : TypeDesc} (h : PlainD t d) {x : t.V} {v : Value} (hr : Rd S w t [v] x) : plainV t x = some v := by
  cases t with
  | int k => unfold Rd at hr; simp only [List.cons.injEq, and_true] at hr; rw [hr]; rfl
  | bool => unfold Rd at hr; simp only [List.cons.injEq, and_true] at hr; rw [hr]; rfl
  | str => unfold Rd at hr; simp only [List.cons.injEq, and_true] at hr; rw [hr]; rfl
  | _ => exact h.elim
theorem plain_rd' {S : CellSet} {w : World} {t : Ty} {d : TypeDesc} (h : PlainD t d) {x : t.V} {v : Value} (hr : plainV t x = some v) : Rd S w t [v] x := by
  cases t with
  | int k => simp only [plainV, Option.some.injEq] at hr; subst hr; unfold Rd; rfl
  | bool => simp only [plainV, Option.some.injEq] at hr; subst hr; unfold Rd; rfl
  | str => simp only [plainV, Option.some.injEq] at hr; subst hr; unfold Rd; rfl
  | _ => exact h.elim
theorem plain_checkKey {t : Ty} {d : TypeDesc} (h : PlainD t d) {T : TypeId} (hu : P.underlying T = some d) (e : Bool) (n : Nat) (v : Value) (w : World) : (Instr.checkKey e (n + 1) T v).run P w = .ok () w := by
  unfold Instr.checkKey
  cases t with
  | int k => cases h; simp [run_underlying hu]
  | bool => cases h; simp [run_underlying hu]
  | str => cases h; simp [run_underlying hu]
  | _ => exact h.elim
theorem str_beq (x y : ByteArray) : (x == y) = decide (x = y) := by
  cases x with | mk x => cases y with | mk y =>
  show (x == y) = decide _
  by_cases h : x = y
  · subst h; simp
  · rw [beq_eq_false_iff_ne.2 h, decide_eq_false (fun q => h (by injection q))]
theorem plain_sameNow {t : Ty} {d : TypeDesc} (h : PlainD t d) {x y : t.V} {u v : Value} (hx : plainV t x = some u) (hy : plainV t y = some v) : Instr.sameNow d u v = some (keyEq t x y) := by
  cases t with
  | int k => cases h; cases hx; cases hy; simp only [Instr.sameNow, if_true]; rfl
  | bool => cases h; cases hx; cases hy; cases x <;> cases y <;> rfl
  | str => cases h; cases hx; cases hy; simp only [Instr.sameNow, keyEq]; rw [str_beq]
  | _ => exact h.elim
theorem plain_eq {t : Ty} {d : TypeDesc} (h : PlainD t d) {x y : t.V} {u v : Value} (hx : plainV t x = some u) (hy : plainV t y = some v) (he : keyEq t x y = true) : u = v := by
  cases t with
  | int k => cases hx; cases hy; simp only [keyEq, decide_eq_true_eq] at he; rw [he]
  | bool => cases hx; cases hy; simp only [keyEq, decide_eq_true_eq] at he; rw [he]
  | str => cases hx; cases hy; simp only [keyEq, decide_eq_true_eq] at he; rw [he]
  | _ => exact h.elim
theorem plain_sameBits {t : Ty} {d : TypeDesc} (h : PlainD t d) {x : t.V} {u : Value} (hx : plainV t x = some u) (n : Nat) : Instr.sameBits n u u = true := by
  cases t with
  | int k => cases hx; cases n <;> simp [Instr.sameBits]
  | bool => cases hx; cases n <;> simp [Instr.sameBits]
  | str => cases hx; cases n <;> simp [Instr.sameBits, str_beq]
  | _ => exact h.elim

/-- what the operations on maps need of the keys -/
structure KeyLaw (P : Program) (k : TypeId) (t : Ty) : Prop where
  check : ∀ (e : Bool) (x : t.V) (v : Value) (w : World), plainV t x = some v → (Instr.checkKey e 10000 k v).run P w = .ok () w
  bits : ∀ (x : t.V) (v : Value), plainV t x = some v → Instr.sameBits 10000 v v = true
  inj : ∀ (x y : t.V) (u v : Value), plainV t x = some u → plainV t y = some v → keyEq t x y = true → u = v
  find : ∀ (x : t.V) (kv : Value) (es : List MapEntry) (w : World), plainV t x = some kv → (∀ e ∈ es, ∃ y : t.V, plainV t y = some e.key) →
    ∃ r, (Instr.findKey k kv es).run P w = .ok r w ∧ ((r = none ∧ ∀ e ∈ es, ∀ y, plainV t y = some e.key → keyEq t x y = false) ∨
      ∃ j e, r = some (j, e.val) ∧ es[j]? = some e ∧ (∀ y, plainV t y = some e.key → keyEq t x y = true) ∧ ∀ i e', i < j → es[i]? = some e' → ∀ y, plainV t y = some e'.key → keyEq t x y = false)

theorem found_now {t : Ty} {d : TypeDesc} (h : PlainD t d) {x : t.V} {kv : Value} (hk : plainV t x = some kv) : ∀ (es : List MapEntry) (i : Nat), (∀ e ∈ es, ∃ y : t.V, plainV t y = some e.key) →
    ∃ r, Instr.findNow d kv es i = some r ∧ ((r = none ∧ ∀ e ∈ es, ∀ y, plainV t y = some e.key → keyEq t x y = false) ∨
      ∃ j e, r = some (i + j, e.val) ∧ es[j]? = some e ∧ (∀ y, plainV t y = some e.key → keyEq t x y = true) ∧ ∀ i e', i < j → es[i]? = some e' → ∀ y, plainV t y = some e'.key → keyEq t x y = false)
  | [], i, he => ⟨none, rfl, .inl ⟨rfl, by simp⟩⟩
  | e :: es, i, he => by
    obtain ⟨y, hy⟩ := he e (by simp)
    have hs := plain_sameNow h hk hy
    have hall : ∀ y', plainV t y' = some e.key → keyEq t x y' = keyEq t x y := by
      intro y' hy'
      have := plain_sameNow h hk hy'
      rw [hs] at this; exact (Option.some.inj this).symm
    cases hq : keyEq t x y with
    | true =>
      refine ⟨some (i, e.val), by simp only [Instr.findNow, hs, hq], .inr ⟨0, e, rfl, rfl, fun y' hy' => by rw [hall y' hy', hq], fun i e' hi => by omega⟩⟩
    | false =>
      obtain ⟨r, h1, h2⟩ := found_now h hk es (i + 1) fun e he' => he e (by simp [he'])
      refine ⟨r, by simp only [Instr.findNow, hs, hq, h1], ?_⟩
      rcases h2 with ⟨rfl, h2⟩ | ⟨j, e1, rfl, h3, h4, h5⟩
      · refine .inl ⟨rfl, fun e1 he1 y' hy' => ?_⟩
        rcases List.mem_cons.1 he1 with rfl | he1
        · rw [hall y' hy', hq]
        · exact h2 e1 he1 y' hy'
      · refine .inr ⟨j + 1, e1, by rw [Nat.add_assoc, Nat.add_comm 1 j], by simpa using h3, h4, fun i' e' hi' he1 y' hy' => ?_⟩
        cases i' with
        | zero => simp at he1; subst he1; rw [hall y' hy', hq]
        | succ i' => exact h5 i' e' (by omega) (by simpa using he1) y' hy'

theorem plain_law {t : Ty} {d : TypeDesc} (h : PlainD t d) {k : TypeId} (hu : P.underlying k = some d) : KeyLaw P k t where
  check := fun e x v w _ => plain_checkKey h hu e 9999 v w
  bits := fun x v hx => plain_sameBits h hx 10000
  inj := fun x y u v hx hy he => plain_eq h hx hy he
  find := fun x kv es w hx he => by
    obtain ⟨r, h1, h2⟩ := found_now h hx es 0 he
    refine ⟨r, by simp [Instr.findKey, run_underlying hu, h1], ?_⟩
    rcases h2 with h2 | ⟨j, e, rfl, h3⟩
    · exact .inl h2
    · exact .inr ⟨j, e, by rw [Nat.zero_add], h3⟩

/-! keys of several cells -/
theorem found_asking {k : TypeId} {t : Ty} (heq : ∀ (x y : t.V) (u v : Value) (w : World), plainV t x = some u → plainV t y = some v → (Op.equal k u v).run P w = .ok (keyEq t x y) w) {x : t.V} {kv : Value} (hk : plainV t x = some kv) (w : World) :
    ∀ (es : List MapEntry) (i : Nat), (∀ e ∈ es, ∃ y : t.V, plainV t y = some e.key) →
    ∃ r, (Instr.findAsking k kv es i).run P w = .ok r w ∧ ((r = none ∧ ∀ e ∈ es, ∀ y, plainV t y = some e.key → keyEq t x y = false) ∨
      ∃ j e, r = some (i + j, e.val) ∧ es[j]? = some e ∧ (∀ y, plainV t y = some e.key → keyEq t x y = true) ∧ ∀ i e', i < j → es[i]? = some e' → ∀ y, plainV t y = some e'.key → keyEq t x y = false)
  | [], i, he => ⟨none, by simp [Instr.findAsking], .inl ⟨rfl, by simp⟩⟩
  | e :: es, i, he => by
    obtain ⟨y, hy⟩ := he e (by simp)
    have hs := heq x y kv e.key w hk hy
    have hall : ∀ y', plainV t y' = some e.key → keyEq t x y' = keyEq t x y := by
      intro y' hy'
      have := heq x y' kv e.key w hk hy'
      rw [hs] at this; simpa using this.symm
    cases hq : keyEq t x y with
    | true =>
      rw [hq] at hs
      refine ⟨some (i, e.val), by simp [Instr.findAsking, hs], .inr ⟨0, e, rfl, rfl, fun y' hy' => by rw [hall y' hy', hq], fun i e' hi => by omega⟩⟩
    | false =>
      rw [hq] at hs
      obtain ⟨r, h1, h2⟩ := found_asking heq hk w es (i + 1) fun e he' => he e (by simp [he'])
      refine ⟨r, by simp [Instr.findAsking, hs, h1], ?_⟩
      rcases h2 with ⟨rfl, h2⟩ | ⟨j, e1, rfl, h3, h4, h5⟩
      · refine .inl ⟨rfl, fun e1 he1 y' hy' => ?_⟩
        rcases List.mem_cons.1 he1 with rfl | he1
        · rw [hall y' hy', hq]
        · exact h2 e1 he1 y' hy'
      · refine .inr ⟨j + 1, e1, by rw [Nat.add_assoc, Nat.add_comm 1 j], by simpa using h3, h4, fun i' e' hi' he1 y' hy' => ?_⟩
        cases i' with
        | zero => simp at he1; subst he1; rw [hall y' hy', hq]
        | succ i' => exact h5 i' e' (by omega) (by simpa using he1) y' hy'

def cellEq : Value → Value → Bool
  | .int _ a, .int _ b => decide (a = b)
  | .bool a, .bool b => decide (a = b)
  | .string a, .string b => decide (a = b)
  | _, _ => false
/-- a cell of a plain type -/
def Typed (t : Ty) (v : Value) : Prop := ∃ x : t.V, v = scV t x
def TypedL : List Ty → List Value → Prop
  | [], vs => vs = []
  | t :: ts, vs => ∃ v r, vs = v :: r ∧ Typed t v ∧ TypedL ts r
theorem scal_plainD {d : TypeDesc} {t : Ty} (h : PlainD t d) : scal t = true := by cases t <;> first | rfl | exact h.elim
theorem cell_part {T : TypeId} {t : Ty} {d : TypeDesc} (h : PlainD t d) (hu : P.underlying T = some d) {cs : Array Value} {i : Nat} {v : Value} (hv : cs[i]? = some v) (w : World) : (part T cs i).run P w = .ok v w := by
  cases t with
  | int k => cases h; simp [part, isAgg, run_underlying hu, hv]
  | bool => cases h; simp [part, isAgg, run_underlying hu, hv]
  | str => cases h; simp [part, isAgg, run_underlying hu, hv]
  | _ => exact h.elim
theorem cell_equal {T : TypeId} {t : Ty} {d : TypeDesc} (h : PlainD t d) (hu : P.underlying T = some d) {u v : Value} (hx : Typed t u) (hy : Typed t v) (n : Nat) (w : World) : (Op.equalIn (n + 1) T u v).run P w = .ok (cellEq u v) w := by
  obtain ⟨x, rfl⟩ := hx
  obtain ⟨y, rfl⟩ := hy
  cases t with
  | int k =>
    cases h; rw [show scV (.int k) x = .int k x from rfl, show scV (.int k) y = .int k y from rfl, run_equalIn_int w n T k k x y hu]; rfl
  | bool => cases h; rw [show scV .bool x = .bool x from rfl, show scV .bool y = .bool y from rfl, run_equalIn_bool' w n T x y hu]; cases x <;> cases y <;> rfl
  | str =>
    cases h; rw [show scV .str x = .string x from rfl, show scV .str y = .string y from rfl, run_equalIn_string w n T x y hu, ← beq_toListBytes, str_beq]; rfl
  | _ => exact h.elim
def cellsEq : List Value → List Value → Bool
  | [], [] => true
  | x :: xs, y :: ys => cellEq x y && cellsEq xs ys
  | _, _ => false
theorem cellsEq_append : ∀ {a c : List Value} (b d : List Value), a.length = c.length → cellsEq (a ++ b) (c ++ d) = (cellsEq a c && cellsEq b d)
  | [], [], b, d, h => by simp [cellsEq]
  | [], _ :: _, b, d, h => by simp at h
  | _ :: _, [], b, d, h => by simp at h
  | x :: a, y :: c, b, d, h => by
    simp only [List.cons_append, cellsEq]
    rw [cellsEq_append b d (by simpa using h), Bool.and_assoc]
theorem scal_eq {t : Ty} (h : scal t = true) (x y : t.V) : cellEq (scV t x) (scV t y) = keyEq t x y := by
  cases t <;> first | rfl | cases h
theorem scal_inj {t : Ty} (h : scal t = true) {x y : t.V} (he : keyEq t x y = true) : x = y := by
  cases t with
  | int k => simpa [keyEq] using he
  | bool => simpa [keyEq] using he
  | str => simpa [keyEq] using he
  | _ => cases h
theorem scal_bits {t : Ty} (h : scal t = true) (x : t.V) (n : Nat) : Instr.sameBits n (scV t x) (scV t x) = true := by
  cases t with
  | int k => cases n <;> simp [scV, Instr.sameBits]
  | bool => cases n <;> simp [scV, Instr.sameBits]
  | str => cases n <;> simp [scV, Instr.sameBits, str_beq]
  | _ => cases h
theorem typedL_append : ∀ {a : List Ty} {u : List Value} {b : List Ty} {v : List Value}, TypedL a u → TypedL b v → TypedL (a ++ b) (u ++ v)
  | [], u, b, v, h, h' => by simp only [TypedL] at h; subst h; exact h'
  | t :: a, u, b, v, ⟨x, r, e, h1, h2⟩, h' => by
    subst e
    exact ⟨x, r ++ v, rfl, h1, typedL_append h2 h'⟩
theorem flat_facts : ∀ (t : Ty), (∀ s ∈ flatT t, scal s = true) → (∀ x : t.V, TypedL (flatT t) (flatV t x)) ∧ (∀ x : t.V, (flatV t x).length = (flatT t).length) ∧ (∀ x y : t.V, cellsEq (flatV t x) (flatV t y) = keyEq t x y) ∧
    (∀ x y : t.V, keyEq t x y = true → x = y) ∧ (∀ x : t.V, ∀ v ∈ flatV t x, Instr.sameBits 9999 v v = true) ∧ (∀ (S : CellSet) (w : World) (cs : List Value) (x : t.V), Rd S w t cs x → cs = flatV t x)
  | .pair a b, h => by
    simp only [flatT, List.mem_append] at h
    obtain ⟨a1, a2, a3, a4, a5, a6⟩ := flat_facts a fun s hs => h s (.inl hs)
    obtain ⟨b1, b2, b3, b4, b5, b6⟩ := flat_facts b fun s hs => h s (.inr hs)
    refine ⟨fun x => typedL_append (a1 x.1) (b1 x.2), fun x => ?_, fun x y => ?_, fun x y he => ?_, fun x v hv => ?_, fun S w cs x hr => ?_⟩
    · simp only [flatV, flatT, List.length_append, a2, b2]
    · simp only [flatV, keyEq]
      rw [cellsEq_append _ _ (by rw [a2, a2]), a3, b3]
    · simp only [keyEq, Bool.and_eq_true] at he
      exact Prod.ext (a4 _ _ he.1) (b4 _ _ he.2)
    · simp only [flatV, List.mem_append] at hv
      exact hv.elim (a5 _ v) (b5 _ v)
    · obtain ⟨c1, d1, rfl, h1, h2⟩ := hr
      simp only [flatV]
      rw [a6 S w c1 x.1 h1, b6 S w d1 x.2 h2]
  | .int k, h => ⟨fun x => ⟨_, [], rfl, ⟨x, rfl⟩, rfl⟩, fun x => rfl, fun x y => by simp only [flatV, cellsEq, Bool.and_true]; exact scal_eq rfl x y, fun x y he => scal_inj rfl he, fun x v hv => by simp only [flatV, List.mem_singleton] at hv; subst hv; exact scal_bits rfl x _, fun S w cs x hr => hr⟩
  | .bool, h => ⟨fun x => ⟨_, [], rfl, ⟨x, rfl⟩, rfl⟩, fun x => rfl, fun x y => by simp only [flatV, cellsEq, Bool.and_true]; exact scal_eq rfl x y, fun x y he => scal_inj rfl he, fun x v hv => by simp only [flatV, List.mem_singleton] at hv; subst hv; exact scal_bits rfl x _, fun S w cs x hr => hr⟩
  | .str, h => ⟨fun x => ⟨_, [], rfl, ⟨x, rfl⟩, rfl⟩, fun x => rfl, fun x y => by simp only [flatV, cellsEq, Bool.and_true]; exact scal_eq rfl x y, fun x y he => scal_inj rfl he, fun x v hv => by simp only [flatV, List.mem_singleton] at hv; subst hv; exact scal_bits rfl x _, fun S w cs x hr => hr⟩
  | .unit, h => by have := h .unit (by simp [flatT]); cases this
  | .sl t, h => by have := h (.sl t) (by simp [flatT]); cases this
  | .arr n t, h => by have := h (.arr n t) (by simp [flatT]); cases this

/-- the fields of a key: the types of the cells from a place on -/
def FieldsAt (P : Program) : List Field → Nat → List Ty → Prop
  | [], _, ts => ts = []
  | f :: fl, i, ts => ∃ t r, ts = t :: r ∧ f.offset = i ∧ (f.name ≠ "_" ∧ ∃ d, P.underlying f.type = some d ∧ PlainD t d) ∧ FieldsAt P fl (i + 1) r
theorem fieldsK_spec (hE : EnvOk P c) : ∀ (fl : List Field) (i : Nat) (ts : List Ty), (∀ f ∈ fl, f.name ≠ "_") → fieldsK c (fl.map (·.type)) (fl.map (·.offset)) i ts = true → FieldsAt P fl i ts
  | [], i, [], _, _ => rfl
  | [], i, _ :: _, _, h => by simp [fieldsK] at h
  | f :: fl, i, [], _, h => by simp [fieldsK] at h
  | f :: fl, i, t :: ts, hn, h => by
    simp only [List.map_cons, fieldsK, Bool.and_eq_true] at h
    obtain ⟨⟨h1, h2⟩, h3⟩ := h
    refine ⟨t, ts, rfl, Nat.eq_of_beq_eq_true h1, ⟨hn f (by simp), ?_⟩, fieldsK_spec hE fl (i + 1) ts (fun g hg => hn g (by simp [hg])) h3⟩
    split at h2
    · rename_i fe hfe
      exact plainD_of (hE.te _ fe hfe) (of_decide_eq_true h2)
    · cases h2
theorem typed_get : ∀ {ts : List Ty} {pre us : List Value} {t : Ty}, TypedL (t :: ts) us → ∃ v r, us = v :: r ∧ Typed t v ∧ TypedL ts r ∧ (pre ++ us).toArray[pre.length]? = some v
  | ts, pre, us, t, ⟨v, r, e, h1, h2⟩ => by subst e; exact ⟨v, r, rfl, h1, h2, by simp⟩
theorem fields_equal (n : Nat) (w : World) : ∀ (fl : List Field) (ts : List Ty) (p q us vs : List Value), p.length = q.length → FieldsAt P fl p.length ts → TypedL ts us → TypedL ts vs →
    (Op.eqFields (n + 1) (p ++ us).toArray (q ++ vs).toArray fl).run P w = .ok (cellsEq us vs) w
  | [], ts, p, q, us, vs, hl, hf, hu, hv => by
    simp only [FieldsAt] at hf; subst hf
    simp only [TypedL] at hu hv; subst hu; subst hv
    simp [Op.eqFields, cellsEq]
  | f :: fl, ts, p, q, us, vs, hl, ⟨t, r, e, ho, ⟨hn, d, hd1, hd2⟩, hf⟩, hu, hv => by
    subst e
    obtain ⟨u, us', rfl, u1, u2, u3⟩ := typed_get (pre := p) hu
    obtain ⟨v, vs', rfl, v1, v2, v3⟩ := typed_get (pre := q) hv
    have ih := fields_equal n w fl r (p ++ [u]) (q ++ [v]) us' vs' (by simp [hl]) (by simpa using hf) u2 v2
    simp only [List.append_assoc, List.singleton_append] at ih
    have e1 := cell_part hd2 hd1 (i := f.offset) (by rw [ho]; exact u3) w
    have e2 := cell_part hd2 hd1 (i := f.offset) (by rw [ho, hl]; exact v3) w
    have e3 := cell_equal hd2 hd1 u1 v1 n w
    simp only [Op.eqFields, if_pos hn, Sem.run_bind, e1, e2, e3, Result.andThen_ok, Sem.run_ite, Sem.run_pure, ih, cellsEq]
    cases cellEq u v <;> simp
theorem fields_check (e : Bool) (n : Nat) (w : World) : ∀ (fl : List Field) (ts : List Ty) (p us : List Value), FieldsAt P fl p.length ts → TypedL ts us →
    (forIn (m := Sem) fl PUnit.unit fun f _ => do
      if f.name ≠ "_" then Instr.checkKey e (n + 1) f.type (← part f.type (p ++ us).toArray f.offset)
      pure (ForInStep.yield PUnit.unit)).run P w = .ok PUnit.unit w
  | [], ts, p, us, hf, hu => by simp
  | f :: fl, ts, p, us, ⟨t, r, e', ho, ⟨hn, d, hd1, hd2⟩, hf⟩, hu => by
    subst e'
    obtain ⟨u, us', rfl, u1, u2, u3⟩ := typed_get (pre := p) hu
    have ih := fields_check e n w fl r (p ++ [u]) us' (by simpa using hf) u2
    simp only [List.append_assoc, List.singleton_append] at ih
    have e1 := cell_part hd2 hd1 (i := f.offset) (by rw [ho]; exact u3) w
    have e2 := plain_checkKey hd2 hd1 e n u w
    simp only [List.forIn_cons, Sem.run_bind, hn, ne_eq, not_false_eq_true, if_true, Result.andThen_ok, e1, e2, Sem.run_pure]
    exact ih
theorem bits_all : ∀ (l : List Value), (∀ v ∈ l, Instr.sameBits 9999 v v = true) → ((l.zip l).all fun x => match x with | (x, y) => Instr.sameBits 9999 x y) = true
  | [], _ => rfl
  | v :: l, h => by simp only [List.zip_cons_cons, List.all_cons, h v (by simp), bits_all l fun u hu => h u (by simp [hu]), Bool.and_self]
theorem bits_agg {cs : Array Value} (h : ∀ v ∈ cs.toList, Instr.sameBits 9999 v v = true) : Instr.sameBits 10000 (.agg cs) (.agg cs) = true := by
  have := bits_all cs.toList h
  simp only [Instr.sameBits, beq_self_eq_true, Bool.true_and]
  exact this
theorem struct_law {k : TypeId} {fields : Array Field} (hu : P.underlying k = some (.struct fields)) (hst : P.stoodInHeld k = false) {a b : Ty} (hf : FieldsAt P fields.toList 0 (flatT (.pair a b))) (hsc : ∀ s ∈ flatT (.pair a b), scal s = true) : KeyLaw P k (.pair a b) := by
  obtain ⟨f1, f2, f3, f4, f5, f6⟩ := flat_facts (.pair a b) hsc
  have hfo : P.fieldsOf k = fields := by unfold Program.fieldsOf; rw [hu]
  have heq : ∀ (x y : (Ty.pair a b).V) (u v : Value) (w : World), plainV (.pair a b) x = some u → plainV (.pair a b) y = some v → (Op.equal k u v).run P w = .ok (keyEq (.pair a b) x y) w := by
    intro x y u v w hx hy
    simp only [plainV, Option.some.injEq] at hx hy
    subst hx; subst hy
    have := fields_equal (P := P) 9998 w fields.toList (flatT (.pair a b)) [] [] (flatV (.pair a b) x) (flatV (.pair a b) y) rfl hf (f1 x) (f1 y)
    rw [f3] at this
    show (Op.equalIn (9999 + 1) k _ _).run P w = _
    rw [run_equalIn_struct w 9999 k _ _ (by rw [hfo]; exact hu) hst, hfo]
    exact this
  have hwide : (match P.underlying k with | some (.array _ _) | some (.struct _) => true | _ => false) = true := by rw [hu]
  refine ⟨?_, ?_, ?_, ?_⟩
  · intro e x v w hx
    simp only [plainV, Option.some.injEq] at hx
    subst hx
    have := fields_check (P := P) e 9998 w fields.toList (flatT (.pair a b)) [] (flatV (.pair a b) x) hf (f1 x)
    simp only [List.nil_append, List.length_nil] at this
    show (Instr.checkKey e (9999 + 1) k _).run P w = _
    unfold Instr.checkKey
    simp only [Sem.run_bind, run_underlying hu, Result.andThen_ok]
    rw [← Array.forIn_toList]
    simp only [this, Result.andThen_ok, Sem.run_pure]
  · intro x v hx
    simp only [plainV, Option.some.injEq] at hx
    subst hx
    exact bits_agg (by simpa using f5 x)
  · intro x y u v hx hy he
    rw [f4 x y he] at hx; rw [hx] at hy; exact Option.some.inj hy
  · intro x kv es w hx he
    obtain ⟨r, h1, h2⟩ := found_asking heq hx w es 0 he
    refine ⟨r, by rw [run_findKey_eq w hwide]; exact h1, ?_⟩
    rcases h2 with h2 | ⟨j, e, rfl, h3⟩
    · exact .inl h2
    · exact .inr ⟨j, e, by rw [Nat.zero_add], h3⟩

/-! keys that are arrays -/
theorem typed_map {t : Ty} (h : scal t = true) : ∀ (xs : List t.V), ∀ v ∈ xs.map (scV t), Typed t v
  | [], v, hv => by simp at hv
  | x :: xs, v, hv => by
    rcases List.mem_cons.1 hv with rfl | hv
    · exact ⟨x, rfl⟩
    · exact typed_map h xs v hv
theorem list_eq {t : Ty} (h : scal t = true) : ∀ (xs ys : List t.V), cellsEq (xs.map (scV t)) (ys.map (scV t)) = listEq (keyEq t) xs ys
  | [], [] => rfl
  | [], _ :: _ => rfl
  | _ :: _, [] => rfl
  | x :: xs, y :: ys => by simp only [List.map_cons, cellsEq, listEq, scal_eq h, list_eq h xs ys]
theorem list_inj {t : Ty} (h : scal t = true) : ∀ (xs ys : List t.V), listEq (keyEq t) xs ys = true → xs = ys
  | [], [], _ => rfl
  | [], _ :: _, he => by cases he
  | _ :: _, [], he => by cases he
  | x :: xs, y :: ys, he => by
    simp only [listEq, Bool.and_eq_true] at he
    rw [scal_inj h he.1, list_inj h xs ys he.2]
theorem items_equal {T : TypeId} {t : Ty} {d : TypeDesc} (h : PlainD t d) (hu : P.underlying T = some d) (h1 : P.cellsOf T = 1) (n : Nat) (w : World) : ∀ (us vs p q : List Value), p.length = q.length → us.length = vs.length → (∀ v ∈ us, Typed t v) → (∀ v ∈ vs, Typed t v) →
    (Op.eqItems (n + 1) T (P.cellsOf T) (p ++ us).toArray (q ++ vs).toArray (List.range' p.length us.length)).run P w = .ok (cellsEq us vs) w
  | [], [], p, q, hl, hl', hx, hy => by simp [Op.eqItems, cellsEq]
  | [], _ :: _, _, _, _, hl', _, _ => by simp at hl'
  | _ :: _, [], _, _, _, hl', _, _ => by simp at hl'
  | u :: us, v :: vs, p, q, hl, hl', hx, hy => by
    have ih := items_equal h hu h1 n w us vs (p ++ [u]) (q ++ [v]) (by simp [hl]) (by simpa using hl') (fun z hz => hx z (by simp [hz])) (fun z hz => hy z (by simp [hz]))
    simp only [List.append_assoc, List.singleton_append, List.length_append, List.length_singleton] at ih
    have e1 := cell_part h hu (cs := (p ++ u :: us).toArray) (i := p.length * P.cellsOf T) (v := u) (by rw [h1]; simp) w
    have e2 := cell_part h hu (cs := (q ++ v :: vs).toArray) (i := p.length * P.cellsOf T) (v := v) (by rw [h1, hl]; simp) w
    have e3 := cell_equal h hu (hx u (by simp)) (hy v (by simp)) n w
    simp only [List.length_cons, List.range'_succ, Op.eqItems, Sem.run_bind, e1, e2, e3, Result.andThen_ok, Sem.run_ite, Sem.run_pure, ih, cellsEq]
    cases cellEq u v <;> simp
theorem items_check {T : TypeId} {t : Ty} {d : TypeDesc} (h : PlainD t d) (hu : P.underlying T = some d) (h1 : P.cellsOf T = 1) {i : TypeInfo} (hi : P.info? T = some i) (e : Bool) (n : Nat) (w : World) : ∀ (us p : List Value), 
    (forIn (m := Sem) (List.range' p.length us.length) PUnit.unit fun i _ => do
      Instr.checkKey e (n + 1) T (← part T (p ++ us).toArray (i * (← sizeOf T)))
      pure (ForInStep.yield PUnit.unit)).run P w = .ok PUnit.unit w
  | [], p => by simp
  | u :: us, p => by
    have ih := items_check h hu h1 hi e n w us (p ++ [u])
    simp only [List.append_assoc, List.singleton_append, List.length_append, List.length_singleton] at ih
    have e1 := cell_part h hu (cs := (p ++ u :: us).toArray) (i := p.length * P.cellsOf T) (v := u) (by rw [h1]; simp) w
    have e2 := plain_checkKey h hu e n u w
    simp only [List.length_cons, List.range'_succ, List.forIn_cons, Sem.run_bind, run_sizeOf w hi, Result.andThen_ok, e1, e2, Sem.run_pure]
    exact ih
theorem array_law {k e : TypeId} {n : Nat} {t : Ty} {d : TypeDesc} (hu : P.underlying k = some (.array n e)) (h : PlainD t d) (hd : P.underlying e = some d) {i : TypeInfo} (hi : P.info? e = some i) (h1 : P.cellsOf e = 1) : KeyLaw P k (.arr n t) := by
  have hsc := scal_plainD h
  have hpv : ∀ (x : List t.V) (u : Value), plainV (.arr n t) x = some u → x.length = n ∧ u = .agg (x.map (scV t)).toArray := by
    intro x u hx
    simp only [plainV] at hx
    split at hx
    · rename_i hl; simp only [Option.some.injEq] at hx; exact ⟨hl, hx.symm⟩
    · cases hx
  have heq : ∀ (x y : (Ty.arr n t).V) (u v : Value) (w : World), plainV (.arr n t) x = some u → plainV (.arr n t) y = some v → (Op.equal k u v).run P w = .ok (keyEq (.arr n t) x y) w := by
    intro x y u v w hx hy
    obtain ⟨l1, rfl⟩ := hpv x u hx
    obtain ⟨l2, rfl⟩ := hpv y v hy
    have := items_equal (P := P) h hd h1 9998 w (x.map (scV t)) (y.map (scV t)) [] [] rfl (by simp [l1, l2]) (typed_map hsc x) (typed_map hsc y)
    simp only [List.nil_append, List.length_nil, List.length_map] at this
    rw [l1] at this
    show (Op.equalIn (9999 + 1) k _ _).run P w = _
    rw [run_equalIn_array w 9999 _ _ hu hi, List.range_eq_range', this, list_eq hsc]
    rfl
  have hwide : (match P.underlying k with | some (.array _ _) | some (.struct _) => true | _ => false) = true := by rw [hu]
  refine ⟨?_, ?_, ?_, ?_⟩
  · intro e' x v w hx
    obtain ⟨l1, rfl⟩ := hpv x v hx
    have := items_check (P := P) h hd h1 hi e' 9998 w (x.map (scV t)) []
    simp only [List.nil_append, List.length_nil, List.length_map] at this
    rw [l1] at this
    show (Instr.checkKey e' (9999 + 1) k _).run P w = _
    unfold Instr.checkKey
    simp only [Sem.run_bind, run_underlying hu, Result.andThen_ok]
    simp only [Std.Legacy.Range.forIn_eq_forIn_range', Std.Legacy.Range.size, Nat.sub_zero, Nat.add_one_sub_one, Nat.div_one]
    simp only [this, Result.andThen_ok, Sem.run_pure]
  · intro x v hx
    obtain ⟨l1, rfl⟩ := hpv x v hx
    refine bits_agg fun v hv => ?_
    simp only [List.mem_map] at hv
    obtain ⟨y, _, rfl⟩ := hv
    exact scal_bits hsc y _
  · intro x y u v hx hy he
    rw [list_inj hsc x y he] at hx; rw [hx] at hy; exact Option.some.inj hy
  · intro x kv es w hx he
    obtain ⟨r, h1, h2⟩ := found_asking heq hx w es 0 he
    refine ⟨r, by rw [run_findKey_eq w hwide]; exact h1, ?_⟩
    rcases h2 with h2 | ⟨j, e, rfl, h3⟩
    · exact .inl h2
    · exact .inr ⟨j, e, by rw [Nat.zero_add], h3⟩

/-- entries in memory and told ones -/
abbrev EntR (t u : Ty) (es : List MapEntry) (m : List (t.V × u.V)) : Prop := es.map (fun x => (some x.key, some x.val)) = m.map fun x => (plainV t x.1, plainV u x.2)
theorem ent_keys {t u : Ty} : ∀ {es : List MapEntry} {m : List (t.V × u.V)}, EntR t u es m → ∀ e ∈ es, ∃ y : t.V, plainV t y = some e.key
  | [], _, _, e, he => by cases he
  | x :: es, [], h, _, _ => by simp [EntR] at h
  | x :: es, p :: m, h, e, he => by
    simp only [EntR, List.map_cons, List.cons.injEq, Prod.mk.injEq] at h
    rcases List.mem_cons.1 he with rfl | he
    · exact ⟨p.1, h.1.1.symm⟩
    · exact ent_keys (m := m) h.2 e he
theorem ent_none {t u : Ty} {key : t.V} {kv : Value} (hk : plainV t key = some kv) (z : u.V) : ∀ {es : List MapEntry} {m : List (t.V × u.V)}, EntR t u es m → (∀ e ∈ es, ∀ y, plainV t y = some e.key → keyEq t key y = false) →
    mget t z key m = (z, false) ∧ ∀ y vy ck, plainV u y = some vy → EntR t u (es ++ [{ key := kv, val := vy, born := ck }]) (mput t key y m)
  | [], [], _, _ => ⟨rfl, fun y vy ck hy => by simp [EntR, mput, hk, hy]⟩
  | [], p :: m, h, _ => by simp [EntR] at h
  | e :: es, [], h, _ => by simp [EntR] at h
  | e :: es, p :: m, h, hn => by
    simp only [EntR, List.map_cons, List.cons.injEq, Prod.mk.injEq] at h
    obtain ⟨⟨h1, h2⟩, h3⟩ := h
    have hq := hn e (by simp) p.1 h1.symm
    obtain ⟨i1, i2⟩ := ent_none hk z (es := es) (m := m) h3 fun e he => hn e (by simp [he])
    refine ⟨by simp only [mget, hq, cond_false]; exact i1, fun y vy ck hy => ?_⟩
    have := i2 y vy ck hy
    simp only [EntR, mput, hq, cond_false, List.cons_append, List.map_cons, h1, h2] at this ⊢
    rw [this]
theorem ent_some {t u : Ty} {key : t.V} {kv : Value} (hk : plainV t key = some kv) (z : u.V) : ∀ {es : List MapEntry} {m : List (t.V × u.V)} {j : Nat} {e : MapEntry}, EntR t u es m → es[j]? = some e → (∀ y, plainV t y = some e.key → keyEq t key y = true) →
    (∀ i e', i < j → es[i]? = some e' → ∀ y, plainV t y = some e'.key → keyEq t key y = false) → kv = e.key →
    (mget t z key m).2 = true ∧ plainV u (mget t z key m).1 = some e.val ∧ ∀ y vy, plainV u y = some vy → EntR t u (es.modify j fun e => { e with key := kv, val := vy }) (mput t key y m)
  | [], _, j, e, _, he, _, _, _ => by simp at he
  | x :: es, [], _, _, h, _, _, _, _ => by simp [EntR] at h
  | x :: es, p :: m, 0, e, h, he, ht, hn, hkv => by
    simp only [List.getElem?_cons_zero, Option.some.injEq] at he
    subst he
    simp only [EntR, List.map_cons, List.cons.injEq, Prod.mk.injEq] at h
    obtain ⟨⟨h1, h2⟩, h3⟩ := h
    have hq := ht p.1 h1.symm
    refine ⟨by simp only [mget, hq, cond_true], by simp only [mget, hq, cond_true]; exact h2.symm, fun y vy hy => ?_⟩
    simp only [EntR, mput, hq, cond_true, List.modify_zero_cons, List.map_cons, hy, h3]
    rw [← h1, hkv]
  | x :: es, p :: m, j + 1, e, h, he, ht, hn, hkv => by
    simp only [EntR, List.map_cons, List.cons.injEq, Prod.mk.injEq] at h
    obtain ⟨⟨h1, h2⟩, h3⟩ := h
    have hq := hn 0 x (by omega) rfl p.1 h1.symm
    obtain ⟨i1, i2, i3⟩ := ent_some hk z (es := es) (m := m) (j := j) (e := e) h3 (by simpa using he) ht (fun i e' hi he' => hn (i + 1) e' (by omega) (by simpa using he')) hkv
    refine ⟨by simp only [mget, hq, cond_false]; exact i1, by simp only [mget, hq, cond_false]; exact i2, fun y vy hy => ?_⟩
    have := i3 y vy hy
    simp only [EntR, mput, hq, cond_false, List.modify_succ_cons, List.map_cons, h1, h2] at this ⊢
    rw [this]
/-- the search for a key, told -/
theorem find_ok {k : TypeId} {t u : Ty} (hL : KeyLaw P k t) (z : u.V) {key : t.V} {kv : Value} (hk : plainV t key = some kv) {es : List MapEntry} {m : List (t.V × u.V)} (hm : EntR t u es m) (w : World) :
    (∃ j v e, (Instr.findKey k kv es).run P w = .ok (some (j, v)) w ∧ es[j]? = some e ∧ e.key = kv ∧ (mget t z key m).2 = true ∧ plainV u (mget t z key m).1 = some v ∧
      ∀ y vy, plainV u y = some vy → EntR t u (es.modify j fun e => { e with key := kv, val := vy }) (mput t key y m)) ∨
    ((Instr.findKey k kv es).run P w = .ok none w ∧ mget t z key m = (z, false) ∧ ∀ y vy ck, plainV u y = some vy → EntR t u (es ++ [{ key := kv, val := vy, born := ck }]) (mput t key y m)) := by
  have hks := ent_keys hm
  obtain ⟨r, h1, h2⟩ := hL.find key kv es w hk hks
  rcases h2 with ⟨rfl, h2⟩ | ⟨j, e, rfl, h3, h4, h5⟩
  · obtain ⟨i1, i2⟩ := ent_none hk z hm h2
    exact .inr ⟨h1, i1, i2⟩
  · obtain ⟨y, hy⟩ := hks e (List.mem_of_getElem? h3)
    have hkv := hL.inj key y kv e.key hk hy (h4 y hy)
    obtain ⟨i1, i2, i3⟩ := ent_some hk z hm h3 h4 h5 hkv
    exact .inl ⟨j, e.val, e, h1, h3, hkv.symm, i1, i2, i3⟩

theorem flat_key {t : Ty} (h : aggT t = true) {p : RP} {a : AV} {v : Value} {y : t.V} (hr : RelAV p a v) (hk : keyOfAV t a = some y) : ∃ cs : Array Value, v = .agg cs ∧ Rd p.S p.w t cs.toList y := by
  unfold keyOfAV at hk
  split at hk
  · rw [h] at hk; cases hk
  · rename_i ls
    rw [h] at hk
    simp only [cond_true, Option.bind_eq_some_iff] at hk
    obtain ⟨⟨x, r⟩, h1, h2⟩ := hk
    cases r with
    | cons _ _ => simp at h2
    | nil =>
      simp only [List.isEmpty_nil, cond_true, Option.some.injEq] at h2
      subst h2
      obtain ⟨cs, rfl, h3⟩ := hr
      obtain ⟨c1, d1, e, h4, h5⟩ := toTy_rel t h1 h3
      simp only [RelLs] at h5; subst h5
      rw [List.append_nil] at e
      exact ⟨cs, rfl, by rw [e]; exact h4⟩
  · cases hk
theorem plain_key {t : Ty} {d : TypeDesc} (hp : PlainD t d) {p : RP} {a : AV} {v : Value} {y : t.V} (hr : RelAV p a v) (hk : keyOfAV t a = some y) : plainV t y = some v := by
  have ha : aggT t = false := by cases t <;> first | rfl | exact hp.elim
  unfold keyOfAV at hk
  split at hk
  · rw [ha] at hk
    simp only [cond_false] at hk
    obtain ⟨rfl, rfl⟩ := castV_eq hk
    rcases hr with hr | hr
    · cases hr
    · unfold RelL at hr; exact plain_rd hp hr
  · rw [ha] at hk; cases hk
  · cases hk
theorem arr_rd {S : CellSet} {w : World} {t : Ty} (h : scal t = true) : ∀ (xs : List t.V) (cs : List Value), RdsOf (Rd S w t) cs xs → cs = xs.map (scV t)
  | [], cs, hr => hr
  | x :: xs, cs, ⟨c1, d1, e, h1, h2⟩ => by
    subst e
    rw [arr_rd h xs d1 h2]
    have : c1 = [scV t x] := by cases t <;> first | exact h1 | cases h
    rw [this]; rfl
theorem key_ok (hE : EnvOk P c) {k : TypeId} {ke : TE} (hk : lkp c.te k = some ke) {t : Ty} (h : keyTy c ke = some t) : KeyLaw P k t ∧ ∀ (p : RP) (a : AV) (v : Value) (y : t.V), RelAV p a v → keyOfAV t a = some y → plainV t y = some v := by
  have hT := hE.te k ke hk
  have hun := hT.under
  have plain : tyOfD ke.d = some t → KeyLaw P k t ∧ ∀ (p : RP) (a : AV) (v : Value) (y : t.V), RelAV p a v → keyOfAV t a = some y → plainV t y = some v := by
    intro h
    obtain ⟨d, hd1, hd2⟩ := plainD_of hT h
    exact ⟨plain_law hd2 hd1, fun p a v y hr hy => plain_key hd2 hr hy⟩
  unfold keyTy at h
  split at h
  · rename_i fs hd
    rw [hd] at hun
    simp only [Option.bind_eq_some_iff] at h
    obtain ⟨t', _, h⟩ := h
    split at h
    · rename_i a b hq
      cases hf : fieldsK c fs ke.offs 0 (flatT (.pair a b)) with
      | false => rw [hf] at h; cases h
      | true =>
        rw [hf] at h
        simp only [cond_true, Option.some.injEq] at h
        subst h
        obtain ⟨fields, hu1, hf1, ho, hfs, hst, _⟩ := hun
        rw [← hf1, ← ho] at hf
        have hfa := fieldsK_spec hE fields.toList 0 _ (fun f hf => (hfs f hf).choose_spec.2.2) hf
        have hsc : ∀ s ∈ flatT (.pair a b), scal s = true := by
          have : ∀ (fl : List Field) (i : Nat) (ts : List Ty), FieldsAt P fl i ts → ∀ s ∈ ts, scal s = true := by
            intro fl
            induction fl with
            | nil => intro i ts h s hs; simp only [FieldsAt] at h; subst h; cases hs
            | cons f fl ih =>
              rintro i ts ⟨t, r, rfl, _, ⟨_, d, _, hd2⟩, h⟩ s hs
              rcases List.mem_cons.1 hs with rfl | hs
              · exact scal_plainD hd2
              · exact ih (i + 1) r h s hs
          exact this _ _ _ hfa
        refine ⟨struct_law hu1 hst hfa hsc, fun p av v y hr hy => ?_⟩
        obtain ⟨cs, rfl, hrd⟩ := flat_key (t := .pair a b) rfl hr hy
        have := (flat_facts (.pair a b) hsc).2.2.2.2.2 _ _ _ _ hrd
        simp only [plainV, ← this]
    · cases h
  · rename_i n e hd
    rw [hd] at hun
    simp only [Option.bind_eq_some_iff, Option.map_eq_some_iff] at h
    obtain ⟨ee, he, t', ht', rfl⟩ := h
    have hTe := hE.te e ee he
    obtain ⟨d, hd1, hd2⟩ := plainD_of hTe ht'
    obtain ⟨i, zv, hi, hisz, _⟩ := hTe.info
    have h1 : P.cellsOf e = 1 := by
      have := hTe.one (plain_agg ht')
      unfold Program.cellsOf; rw [hi]; simp only [Option.map_some, Option.getD_some]; omega
    refine ⟨array_law hun hd2 hd1 hi h1, fun p av v y hr hy => ?_⟩
    obtain ⟨cs, rfl, hrd⟩ := flat_key (t := .arr n t') rfl hr hy
    obtain ⟨hl, hrd⟩ := hrd
    have := arr_rd (scal_plainD hd2) y cs.toList hrd
    simp only [plainV]
    rw [if_pos hl, ← this]
  · exact plain h

theorem mapOk_spec (hE : EnvOk P c) {T k e : TypeId} {t u : Ty} (h : mapOk c T k e t u = true) :
    P.underlying T = some (.map k e) ∧ (KeyLaw P k t ∧ ∀ (p : RP) (a : AV) (v : Value) (y : t.V), RelAV p a v → keyOfAV t a = some y → plainV t y = some v) ∧ (∃ ve d, lkp c.te e = some ve ∧ tyOfD ve.d = some u ∧ P.underlying e = some d ∧ PlainD u d) := by
  unfold mapOk at h
  split at h
  · rename_i te ke ve h1 h2 h3
    simp only [Bool.and_eq_true, decide_eq_true_eq] at h
    obtain ⟨⟨h4, h5⟩, h6⟩ := h
    split at h4
    · rename_i k' e' hd
      simp only [Bool.and_eq_true, Nat.beq_eq] at h4
      obtain ⟨rfl, rfl⟩ := h4
      have hu := (hE.te T te h1).under
      rw [hd] at hu
      obtain ⟨d', hd3, hd4⟩ := plainD_of (hE.te _ ve h3) h6
      exact ⟨hu, key_ok hE h2 h5, ⟨ve, d', h3, h6, hd3, hd4⟩⟩
    · cases h4
  · cases h

theorem map_val {p : RP} {n : Nat} {k e : TypeId} {t u : Ty} {m : List (t.V × u.V)} (hO : p.O n = some (.mp k e t u m)) {v : Value} (h : RelAV p (.one (.mp n)) v) : ∃ b, (p.β n).1 = some (b, 0) ∧ v = .map (some b) := by
  rcases h with h | h
  · cases h
  unfold RelL at h
  rw [hO] at h
  obtain ⟨b, hb, hv⟩ := h
  simp only [List.cons.injEq, and_true] at hv
  exact ⟨b, hb, hv⟩
theorem plain_val {p : RP} {t t' : Ty} {x : t'.V} {y : t.V} {v : Value} (h : RelAV p (.one (.v t' x)) v) (hc : castV t' t x = some y) {d : TypeDesc} (hp : PlainD t d) : plainV t y = some v := by
  obtain ⟨rfl, rfl⟩ := castV_eq hc
  rcases h with h | h
  · cases h
  · unfold RelL at h; exact plain_rd hp h

theorem zero_plain (hE : EnvOk P c) {e : TypeId} {ve : TE} (hl : lkp c.te e = some ve) {u : Ty} (ht : tyOfD ve.d = some u) {d : TypeDesc} (hp : PlainD u d) {z : u.V × List Lf} (hz : toTy u ve.z = some z) (w : World) :
    ∃ v, (zeroValue e).run P w = .ok v w ∧ plainV u z.1 = some v := by
  have hT := hE.te e ve hl
  obtain ⟨i, zv, hi, hisz, hib, hiz, hzr, hz1, hzs⟩ := hT.info
  have ha := plain_agg ht
  have hcells := cells_one (hT.zone ha i zv hi hiz)
  have hsz : u.size = 1 := by cases u <;> first | rfl | exact hp.elim
  have h1 := toTy_rel (p := ⟨fun _ _ => False, w, fun _ _ => False, fun _ => (none, 0), fun _ => none, noRoot⟩) u (x := z.1) (r := z.2) (by rw [hz]) (hzr _)
  refine ⟨zv, by simp [zeroValue, typeInfo, hi, hiz, Sem.run_bind, Result.andThen_ok], ?_⟩
  rw [hcells] at h1
  obtain ⟨c1, d1, hcd, h2, h3⟩ := h1
  have : c1 = [zv] := by
    have hone : c1.length = 1 := by
      cases u <;> first | exact hp.elim | (unfold Rd at h2; rw [h2]; rfl)
    rcases c1 with _ | ⟨a, _ | ⟨b, r⟩⟩ <;> simp_all
  subst this
  exact plain_rd hp h2

theorem makeMap_ok (hE : EnvOk P c) (hc : Core F S β O w) {T k e : TypeId} {t u : Ty} (ho : o.op = .makeMap T none) {d : Nat} (hnew : O d = none)
    (hn : After F S β O (over [(d, .mp k e t u [])] O) w (.one (.mp d)) o a next) : o.wp P a w next Q := by
  obtain ⟨h1, h2⟩ := hc.new hnew (.mp k e t u []) (by intro e t xs hh; cases hh) (.map #[] 0) 0 (by
    intro q hq hb hw
    exact ⟨w.heap.size, #[], 0, by rw [hb], hw, rfl, rfl, by intro j e he; simp at he⟩)
  refine wp_value (v := .map (some w.heap.size)) (w' := { w with heap := w.heap.push (.map #[] 0) }) ?_ ?_
  · simp [execOp, ho, Instr.makeMap]
  · rw [over_cons, over_nil] at hn
    refine hn _ _ _ _ h1 h2 (.inr ?_)
    unfold RelL
    simp only [Fr.rp, upd_same]
    exact ⟨w.heap.size, rfl, rfl⟩

theorem lookup_ok (hE : EnvOk P c) (hc : Core F S β O w) (hs : Slots (F.rp S β O w) (lkp σ) a.tmps) {T : TypeId} {X Y : Operand} {ok : Bool} (ho : o.op = .lookup T X Y ok) {n : Nat} (hx : gv c σ X 0 = some (.one (.mp n)))
    {y : AV} (hy : gv c σ Y 0 = some y) {k e : TypeId} {t u : Ty} {m : List (t.V × u.V)} (hO : O n = some (.mp k e t u m)) (hm : mapOk c T k e t u = true) {key : t.V} (hkey : keyOfAV t y = some key)
    {ve : TE} (hve : lkp c.te e = some ve) {z : u.V × List Lf} (hz : toTy u ve.z = some z)
    (hn1 : ok = true → After F S β O (over [] O) w (.tup [(false, [.v u (mget t z.1 key m).1]), (false, [.v .bool (mget t z.1 key m).2])]) o a next)
    (hn2 : ok = false → After F S β O (over [] O) w (.one (.v u (mget t z.1 key m).1)) o a next) : o.wp P a w next Q := by
  obtain ⟨hT, ⟨hL, hav⟩, ⟨ve', d', hv1, hv2, hv3, hv4⟩⟩ := mapOk_spec hE hm
  rw [hve] at hv1; cases hv1
  obtain ⟨b, hb, hX⟩ := map_val (p := F.rp S β O w) hO (gv_rel hE hs hx)
  have hY := hav _ _ _ _ (gv_rel hE hs hy) hkey
  obtain ⟨b', es, clock, hb', hw, hent, hclk, hborn⟩ := hc.obj n _ hO
  rw [hb] at hb'; simp only [Option.some.injEq, Prod.mk.injEq, and_true] at hb'; subst hb'
  simp only [Fr.rp] at hb hw
  have hget : (getObj b).run P w = .ok (.map es clock) w := by simp [getObj, Sem.run, hw]
  have hck := hL.check es.isEmpty key (a.eval Y) w hY
  obtain ⟨zv, hzv, hzp⟩ := zero_plain hE hve hv2 hv4 hz w
  have key : ∃ v, (Instr.lookup T (a.eval X) (a.eval Y) ok).run P w = .ok (if ok then .tuple #[v, .bool (mget t z.1 key m).2] else v) w ∧ plainV u (mget t z.1 key m).1 = some v := by
    rcases find_ok hL z.1 hY hent w with ⟨j, v, e', q1, q2, q3, q4, q5, q6⟩ | ⟨q1, q2, q3⟩
    · refine ⟨v, ?_, q5⟩
      cases ok <;> simp [Instr.lookup, run_underlying hT, hX, hget, hck, q1, q4]
    · refine ⟨zv, ?_, by rw [q2]; exact hzp⟩
      cases ok <;> simp [Instr.lookup, run_underlying hT, hX, hget, hck, q1, q2, hzv]
  obtain ⟨v, h1, h2⟩ := key
  have hrd : ∀ p : RP, RelL p (.v u (mget t z.1 key m).1) [v] := fun p => by unfold RelL; exact plain_rd' hv4 h2
  cases ok with
  | true =>
    refine pure_ok hc (v := .tuple #[v, .bool (mget t z.1 key m).2]) (by simp [execOp, ho, h1]) ?_ (hn1 rfl)
    exact ⟨_, rfl, _, _, rfl, ⟨_, rfl, .inr (hrd _)⟩, _, _, rfl, ⟨_, rfl, .inr rfl⟩, rfl⟩
  | false =>
    refine pure_ok hc (v := v) (by simp [execOp, ho, h1]) ?_ (hn2 rfl)
    exact .inr (hrd _)

theorem mapUpd_ok (hE : EnvOk P c) (hc : Core F S β O w) (hs : Slots (F.rp S β O w) (lkp σ) a.tmps) {T : TypeId} {X Y V : Operand} (ho : o.op = .mapUpdate T X Y V ∨ o.op = .insert T X Y V) {n : Nat} (hx : gv c σ X 0 = some (.one (.mp n)))
    {y : AV} (hy : gv c σ Y 0 = some y) {u' : Ty} {v : u'.V} (hv : gv c σ V 0 = some (.one (.v u' v))) {k e : TypeId} {t u : Ty} {m : List (t.V × u.V)} (hO : O n = some (.mp k e t u m)) (hm : mapOk c T k e t u = true) {key : t.V} (hkey : keyOfAV t y = some key)
    {val : u.V} (hval : castV u' u v = some val) (hn : After F S β O (over [(n, .mp k e t u (mput t key val m))] O) w (.one .undef) o a next) : o.wp P a w next Q := by
  obtain ⟨hT, ⟨hL, hav⟩, ⟨ve', d', hv1, hv2, hv3, hv4⟩⟩ := mapOk_spec hE hm
  obtain ⟨b, hb, hX⟩ := map_val (p := F.rp S β O w) hO (gv_rel hE hs hx)
  have hY := hav _ _ _ _ (gv_rel hE hs hy) hkey
  have hV := plain_val (gv_rel hE hs hv) hval hv4
  obtain ⟨b', es, clock, hb', hw, hent, hclk, hborn⟩ := hc.obj n _ hO
  rw [hb] at hb'; simp only [Option.some.injEq, Prod.mk.injEq, and_true] at hb'; subst hb'
  simp only [Fr.rp] at hb hw
  have hget : (getObj b).run P w = .ok (.map es clock) w := by simp [getObj, Sem.run, hw]
  have hset : ∀ ob, (setObj b ob).run P w = .ok () { w with heap := w.heap.setIfInBounds b ob } := by intro ob; simp [setObj, Sem.run, hw]
  have hck := hL.check false key (a.eval Y) w hY
  have key : ∃ es' ck, (Instr.mapUpdate T (a.eval X) (a.eval Y) (a.eval V)).run P w = .ok () { w with heap := w.heap.setIfInBounds b (.map es' ck) } ∧ EntR t u es'.toList (mput t key val m) ∧ ck = es'.size ∧ (∀ (j : Nat) (e : MapEntry), es'[j]? = some e → e.born = j) := by
    rcases find_ok hL val hY hent w with ⟨j, v, e', q1, q2, q3, q4, q5, q6⟩ | ⟨q1, q2, q3⟩
    · refine ⟨es.modify j fun e => { e with key := a.eval Y, val := a.eval V }, clock, ?_, by rw [Array.toList_modify]; exact q6 val _ hV, by simpa using hclk, ?_⟩
      rotate_left
      · intro i e'' he
        rw [Array.getElem?_modify] at he
        split at he
        · simp only [Option.map_eq_some_iff] at he
          obtain ⟨e0, he0, rfl⟩ := he
          exact hborn i e0 he0
        · exact hborn i e'' he
      have hj : (((es[j]?).map (·.key)).getD (a.eval Y)) = a.eval Y := by
        have : es[j]? = some e' := by simpa using q2
        rw [this]; exact q3
      have hst : (Instr.keyThatStays (((es[j]?).map (·.key)).getD (a.eval Y)) (a.eval Y)).run P w = .ok (a.eval Y) w := by
        rw [hj]; simp [Instr.keyThatStays, hL.bits key _ hY]
      simp [Instr.mapUpdate, run_underlying hT, hX, hget, hck, q1, hst, hset]
    · refine ⟨es.push { key := a.eval Y, val := a.eval V, born := clock }, clock + 1, ?_, by rw [Array.toList_push]; exact q3 val _ clock hV, by simp [hclk], ?_⟩
      rotate_left
      · intro i e'' he
        rw [Array.getElem?_push] at he
        split at he
        · simp only [Option.some.injEq] at he; subst he; simp only; omega
        · exact hborn i e'' he
      simp [Instr.mapUpdate, run_underlying hT, hX, hget, hck, q1, hset]
  obtain ⟨es', ck, h1, h2, h3, h4⟩ := key
  obtain ⟨g1, g2⟩ := hc.writeObj hO rfl (o' := .mp k e t u (mput t key val m)) (.inr ⟨_, _, _, _, _, rfl⟩) rfl hb (by intro e t xs hh; cases hh) (by intro e t xs hh; cases hh) (.map es' ck) (by
    intro q _ hqb hqw
    refine ⟨b, es', ck, by rw [hqb]; exact hb, ?_, h2, h3, h4⟩
    rw [hqw]
    exact Array.getElem?_setIfInBounds_self_of_lt (Array.getElem?_eq_some_iff.1 hw).1)
  rw [over_cons, over_nil] at hn
  refine wp_skip' ?_ (hn _ _ _ _ g1 g2 (.inl rfl))
  rcases ho with ho | ho <;> simp [execOp, ho, h1]

theorem rd_scal {S : CellSet} {w : World} {t : Ty} (h : scal t = true) (x : t.V) : Rd S w t [scV t x] x := by
  cases t <;> first | rfl | cases h
theorem rds_scal {S : CellSet} {w : World} {t : Ty} (h : scal t = true) : ∀ xs : List t.V, RdsOf (Rd S w t) (xs.map (scV t)) xs
  | [] => rfl
  | x :: xs => ⟨[scV t x], xs.map (scV t), rfl, rd_scal h x, rds_scal h xs⟩
theorem flat_leaves {p : RP} : ∀ (t : Ty), (∀ s ∈ flatT t, scal s = true) → ∀ x : t.V, RelLs p (leaves t x) (flatV t x)
  | .pair a b, h, x => RelLs_append (flat_leaves a (fun s hs => h s (by simp [flatT, hs])) x.1) (flat_leaves b (fun s hs => h s (by simp [flatT, hs])) x.2)
  | .int k, _, x => ⟨[.int k x], [], rfl, rfl, rfl⟩
  | .bool, _, x => ⟨[.bool x], [], rfl, rfl, rfl⟩
  | .str, _, x => ⟨[.string x], [], rfl, rfl, rfl⟩
  | .unit, h, _ => by have := h .unit (by simp [flatT]); cases this
  | .sl t, h, _ => by have := h (.sl t) (by simp [flatT]); cases this
  | .arr n t, h, _ => by have := h (.arr n t) (by simp [flatT]); cases this

theorem mapRange_ok (hE : EnvOk P c) (hc : Core F S β O w) (hs : Slots (F.rp S β O w) (lkp σ) a.tmps) {T : TypeId} {X : Operand} (ho : o.op = .range T X) {n : Nat} (hx : gv c σ X 0 = some (.one (.mp n)))
    {k e : TypeId} {t u : Ty} {m : List (t.V × u.V)} (hO : O n = some (.mp k e t u m)) (hm : mapOk c T k e t u = true) {d : Nat} (hnew : O d = none)
    (hn : After F S β O (over [(d, .miter (.mp n) m.length [])] O) w (.one (.ref d 0)) o a next) : o.wp P a w next Q := by
  obtain ⟨hT, _⟩ := mapOk_spec hE hm
  obtain ⟨bm, hb, hX⟩ := map_val (p := F.rp S β O w) hO (gv_rel hE hs hx)
  obtain ⟨b', es, clock, hb', hw, hent, hclk, hborn⟩ := hc.obj n _ hO
  rw [hb] at hb'; simp only [Option.some.injEq, Prod.mk.injEq, and_true] at hb'; subst hb'
  simp only [Fr.rp] at hb hw
  have hlen : clock = m.length := by
    have := congrArg List.length hent
    simp at this; omega
  have hget : (getObj bm).run P w = .ok (.map es clock) w := by simp [getObj, Sem.run, hw]
  have hrel : RelL (F.rp S β O w) (.mp n) [.map (some bm)] := by
    unfold RelL
    rw [show (F.rp S β O w).O n = some (.mp k e t u m) from hO]
    exact ⟨bm, hb, rfl⟩
  obtain ⟨h1, h2⟩ := hc.new hnew (.miter (.mp n) m.length []) (by intro e t xs hh; cases hh) (.mapIter (some bm) clock #[] clock) 0 (by
    intro q hq hqb hqw
    refine ⟨w.heap.size, bm, by rw [hqb], ?_, RelL_le hq _ hrel⟩
    rw [hqw, hlen])
  refine wp_value (v := .pointer (some ⟨w.heap.size, 0, none⟩)) (w' := { w with heap := w.heap.push (.mapIter (some bm) clock #[] clock) }) ?_ ?_
  · simp [execOp, ho, Instr.range, run_underlying hT, hX, hget]
  · rw [over_cons, over_nil] at hn
    refine hn _ _ _ _ h1 h2 (.inr ?_)
    unfold RelL
    simp only [Fr.rp, upd_same]
    exact ⟨w.heap.size, rfl, rfl⟩

theorem plain_leaves {p : RP} {t : Ty} (h : plainK t = true) {x : t.V} {v : Value} (hx : plainV t x = some v) : RelVl p (aggT t, leaves t x) v := by
  cases t with
  | int k => simp only [plainV, Option.some.injEq] at hx; subst hx; exact ⟨_, rfl, .inr rfl⟩
  | bool => simp only [plainV, Option.some.injEq] at hx; subst hx; exact ⟨_, rfl, .inr rfl⟩
  | str => simp only [plainV, Option.some.injEq] at hx; subst hx; exact ⟨_, rfl, .inr rfl⟩
  | unit => cases hx
  | sl t => cases hx
  | arr n t =>
    simp only [plainV] at hx
    split at hx
    · rename_i hl
      simp only [Option.some.injEq] at hx; subst hx
      refine ⟨_, rfl, ?_⟩
      show RelLs p [.v (.arr n t) x] (List.map (scV t) x)
      refine ⟨List.map (scV t) x, [], by simp, ?_, rfl⟩
      show Rd p.S p.w (.arr n t) (List.map (scV t) x) x
      refine ⟨hl, ?_⟩
      exact rds_scal h x
    · cases hx
  | pair a b =>
    simp only [plainV, Option.some.injEq] at hx; subst hx
    refine ⟨_, rfl, ?_⟩
    show RelLs p (leaves (.pair a b) x) (flatV (.pair a b) x)
    exact flat_leaves (.pair a b) (by unfold plainK at h; exact List.all_eq_true.1 h) x

theorem scal_leaf {p : RP} {u : Ty} (hu : scal u = true) {x : u.V} {v : Value} (h : plainV u x = some v) : RelL p (.v u x) [v] := by
  unfold RelL
  cases u <;> first | (simp only [plainV, Option.some.injEq] at h; rw [← h]; rfl) | cases hu

theorem mapEntry_ok (hE : EnvOk P c) (hc : Core F S β O w) (hs : Slots (F.rp S β O w) (lkp σ) a.tmps) {X : Operand} (ho : o.op = .entry X) {n : Nat} (hx : gv c σ X 0 = some (.one (.ref n 0))) {m k : Nat} {seen : List Nat} (hO : O n = some (.miter (.mp m) k seen))
    {kT eT : TypeId} {t u : Ty} {l : List (t.V × u.V)} (hM : O m = some (.mp kT eT t u l)) (ht : plainK t = true) (hu : scal u = true) {e : t.V × u.V} (he : entryAt l k seen = some e)
    (hn : After F S β O (over [] O) w (.tup [(aggT t, leaves t e.1), (false, [.v u e.2])]) o a next) : o.wp P a w next Q := by
  obtain ⟨b, bm, h1, h2, h3⟩ := hc.obj n _ hO
  obtain ⟨bm', es, clock, h4, h5, hent, hclk, hborn⟩ := hc.obj m _ hM
  unfold RelL at h3
  rw [show (F.rp S β O w).O m = some (.mp kT eT t u l) from hM] at h3
  obtain ⟨bm2, h6, h7⟩ := h3
  simp only [List.cons.injEq, Value.map.injEq, Option.some.injEq, and_true] at h7
  subst h7
  rw [h4] at h6; simp only [Option.some.injEq, Prod.mk.injEq, and_true] at h6; subst h6
  simp only [Fr.rp] at h1 h2 h4 h5
  have hv := gv_rel hE hs hx
  rcases hv with hv | hv
  · cases hv
  unfold RelL at hv
  rw [show (F.rp S β O w).O n = some (.miter (.mp m) k seen) from hO] at hv
  obtain ⟨b', hb', hv⟩ := hv
  simp only [Fr.rp] at hb'
  rw [h1] at hb'; simp only [Option.some.injEq, Prod.mk.injEq, and_true] at hb'; subst hb'
  simp only [List.cons.injEq, and_true] at hv
  unfold entryAt at he
  split at he
  case isFalse => cases he
  rename_i hlen
  simp only [Option.bind_eq_some_iff] at he
  obtain ⟨j, hj, hlj⟩ := he
  have hel : es.size = l.length := by
    have := congrArg List.length hent
    simpa using this
  have hcl : clock = k := by omega
  subst hcl
  obtain ⟨ys, rfl⟩ : ∃ ys, seen = ys ++ [j] := ⟨seen.dropLast, by
    have hne : seen ≠ [] := by rintro rfl; simp at hj
    rw [List.getLast?_eq_some_getLast hne] at hj
    simp only [Option.some.injEq] at hj
    rw [← hj]; exact (List.dropLast_concat_getLast hne).symm⟩
  have hjl : j < es.size := by
    have := (List.getElem?_eq_some_iff.1 hlj).1
    omega
  have hje : es[j]? = some es[j] := Array.getElem?_eq_getElem hjl
  have hbj := hborn j _ hje
  have hnod : (es.toList.map (·.born)).Nodup := by
    have : es.toList.map (·.born) = List.range es.size := by
      apply List.ext_getElem?
      intro i
      by_cases hi : i < es.size
      · have := hborn i _ (Array.getElem?_eq_getElem hi)
        simp [hi, this]
      · simp [hi]
    rw [this]; exact List.nodup_range
  have hkv : some es[j].key = plainV t e.1 ∧ some es[j].val = plainV u e.2 := by
    have := congrArg (fun q => q[j]?) hent
    have hj2 : es.toList[j]? = some es[j] := by simp
    simp only [List.getElem?_map, hj2, hlj, Option.map_some, Option.some.injEq, Prod.mk.injEq] at this
    exact this
  have hrun := run_entry_at (P := P) w b bm' clock ys.toArray es clock es[j] (by rw [h2, hbj]; simp) h5 (by simp) hnod
  refine pure_ok hc (v := .tuple #[es[j].key, es[j].val]) (by simp [execOp, ho, hv, hrun]) ?_ hn
  exact ⟨_, rfl, _, _, rfl, plain_leaves ht hkv.1.symm, _, _, rfl, ⟨_, rfl, .inr (scal_leaf hu hkv.2.symm)⟩, rfl⟩

theorem mfind_none {t u : Ty} {key : t.V} : ∀ {es : List MapEntry} {m : List (t.V × u.V)}, EntR t u es m → (∀ e ∈ es, ∀ y, plainV t y = some e.key → keyEq t key y = false) → mfind t key m = m.length
  | [], [], _, _ => rfl
  | [], p :: m, h, _ => by simp [EntR] at h
  | e :: es, [], h, _ => by simp [EntR] at h
  | e :: es, p :: m, h, hn => by
    simp only [EntR, List.map_cons, List.cons.injEq, Prod.mk.injEq] at h
    obtain ⟨⟨h1, h2⟩, h3⟩ := h
    have hq := hn e (by simp) p.1 h1.symm
    simp only [mfind, hq, cond_false, List.length_cons]
    rw [mfind_none (m := m) h3 fun e he => hn e (by simp [he])]
theorem mfind_some {t u : Ty} {key : t.V} : ∀ {es : List MapEntry} {m : List (t.V × u.V)} {j : Nat} {e : MapEntry}, EntR t u es m → es[j]? = some e → (∀ y, plainV t y = some e.key → keyEq t key y = true) →
    (∀ i e', i < j → es[i]? = some e' → ∀ y, plainV t y = some e'.key → keyEq t key y = false) → mfind t key m = j
  | [], _, j, e, _, he, _, _ => by simp at he
  | x :: es, [], _, _, h, _, _, _ => by simp [EntR] at h
  | x :: es, p :: m, 0, e, h, he, ht, hn => by
    simp only [List.getElem?_cons_zero, Option.some.injEq] at he
    subst he
    simp only [EntR, List.map_cons, List.cons.injEq, Prod.mk.injEq] at h
    have hq := ht p.1 h.1.1.symm
    simp only [mfind, hq, cond_true]
  | x :: es, p :: m, j + 1, e, h, he, ht, hn => by
    simp only [EntR, List.map_cons, List.cons.injEq, Prod.mk.injEq] at h
    have hq := hn 0 x (by omega) rfl p.1 h.1.1.symm
    simp only [mfind, hq, cond_false]
    rw [mfind_some (m := m) (j := j) (e := e) h.2 (by simpa using he) ht (fun i e' hi he' => hn (i + 1) e' (by omega) (by simpa using he'))]

theorem find2_ok {k : TypeId} {t u : Ty} (hL : KeyLaw P k t) (z : u.V) {key : t.V} {kv : Value} (hk : plainV t key = some kv) {es : List MapEntry} {m : List (t.V × u.V)} (hm : EntR t u es m) (w : World) :
    (∃ j v e, (Instr.findKey k kv es).run P w = .ok (some (j, v)) w ∧ es[j]? = some e ∧ e.key = kv ∧ e.val = v ∧ mfind t key m = j ∧ plainV u (mget t z key m).1 = some v ∧
      ∀ y vy, plainV u y = some vy → EntR t u (es.modify j fun e => { e with key := kv, val := vy }) (mput t key y m)) ∨
    ((Instr.findKey k kv es).run P w = .ok none w ∧ mget t z key m = (z, false) ∧ mfind t key m = m.length ∧ ∀ y vy ck, plainV u y = some vy → EntR t u (es ++ [{ key := kv, val := vy, born := ck }]) (mput t key y m)) := by
  have hks := ent_keys hm
  obtain ⟨r, h1, h2⟩ := hL.find key kv es w hk hks
  rcases h2 with ⟨rfl, h2⟩ | ⟨j, e, rfl, h3, h4, h5⟩
  · obtain ⟨i1, i2⟩ := ent_none hk z hm h2
    exact .inr ⟨h1, i1, mfind_none hm h2, i2⟩
  · obtain ⟨y, hy⟩ := hks e (List.mem_of_getElem? h3)
    have hkv := hL.inj key y kv e.key hk hy (h4 y hy)
    obtain ⟨i1, i2, i3⟩ := ent_some hk z hm h3 h4 h5 hkv
    exact .inl ⟨j, e.val, e, h1, h3, hkv.symm, rfl, mfind_some hm h3 h4 h5, i2, i3⟩

theorem modify_congr' {α : Type} {xs : List α} {i : Nat} {f g : α → α} {x : α} (h : xs[i]? = some x) (hf : f x = g x) : xs.modify i f = xs.modify i g := by
  apply List.ext_getElem?
  intro j
  rw [List.getElem?_modify, List.getElem?_modify]
  by_cases hj : i = j
  · subst hj; simp [h, hf]
  · simp [hj]

theorem mapPlace_ok (hE : EnvOk P c) (hc : Core F S β O w) (hs : Slots (F.rp S β O w) (lkp σ) a.tmps) {T : TypeId} {X Y : Operand} (ho : o.op = .mapEntry T X Y) {n : Nat} (hx : gv c σ X 0 = some (.one (.mp n)))
    {y : AV} (hy : gv c σ Y 0 = some y) {k e : TypeId} {t u : Ty} {m : List (t.V × u.V)} (hO : O n = some (.mp k e t u m)) (hm : mapOk c T k e t u = true) {key : t.V} (hkey : keyOfAV t y = some key)
    {ve : TE} (hve : lkp c.te e = some ve) {z : u.V × List Lf} (hz : toTy u ve.z = some z)
    (hn : After F S β O (over [(n, .mp k e t u (mput t key (mget t z.1 key m).1 m))] O) w (.tup [(false, [.v u (mget t z.1 key m).1]), (false, [.v (.int .i64) (mfind t key m : Int)])]) o a next) : o.wp P a w next Q := by
  obtain ⟨hT, ⟨hL, hav⟩, ⟨ve', d', hv1, hv2, hv3, hv4⟩⟩ := mapOk_spec hE hm
  rw [hve] at hv1; cases hv1
  obtain ⟨b, hb, hX⟩ := map_val (p := F.rp S β O w) hO (gv_rel hE hs hx)
  have hY := hav _ _ _ _ (gv_rel hE hs hy) hkey
  obtain ⟨b', es, clock, hb', hw, hent, hclk, hborn⟩ := hc.obj n _ hO
  rw [hb] at hb'; simp only [Option.some.injEq, Prod.mk.injEq, and_true] at hb'; subst hb'
  simp only [Fr.rp] at hb hw
  have hget : (getObj b).run P w = .ok (.map es clock) w := by simp [getObj, Sem.run, hw]
  have hset : ∀ ob, (setObj b ob).run P w = .ok () { w with heap := w.heap.setIfInBounds b ob } := by intro ob; simp [setObj, Sem.run, hw]
  have hck := hL.check false key (a.eval Y) w hY
  obtain ⟨zv, hzv, hzp⟩ := zero_plain hE hve hv2 hv4 hz w
  have hmlen : es.size = m.length := by
    have := congrArg List.length hent
    simpa using this
  have key : ∃ es' ck v, (Instr.mapEntry T (a.eval X) (a.eval Y)).run P w = .ok (.tuple #[v, .int .i64 (mfind t key m : Int)]) { w with heap := w.heap.setIfInBounds b (.map es' ck) } ∧ plainV u (mget t z.1 key m).1 = some v ∧
      EntR t u es'.toList (mput t key (mget t z.1 key m).1 m) ∧ ck = es'.size ∧ (∀ (j : Nat) (e : MapEntry), es'[j]? = some e → e.born = j) := by
    rcases find2_ok hL z.1 hY hent w with ⟨j, v, e', q1, q2, q3, q4, q5, q6, q7⟩ | ⟨q1, q2, q3, q4⟩
    · have hje : es[j]? = some e' := by simpa using q2
      have hbj := hborn j e' hje
      refine ⟨es.modify j fun e => { e with key := a.eval Y }, clock, v, ?_, q6, ?_, by simpa using hclk, ?_⟩
      · have hj : (((es[j]?).map (·.key)).getD (a.eval Y)) = a.eval Y := by rw [hje]; exact q3
        have hst : (Instr.keyThatStays (((es[j]?).map (·.key)).getD (a.eval Y)) (a.eval Y)).run P w = .ok (a.eval Y) w := by
          rw [hj]; simp [Instr.keyThatStays, hL.bits key _ hY]
        have hbn : (((es[j]?).map (·.born)).getD 0) = j := by rw [hje]; exact hbj
        simp [Instr.mapEntry, run_underlying hT, hX, hget, hck, q1, hst, hset, goInt, q5]
        rw [hje]; simp [hbj]
      · rw [Array.toList_modify]
        have := q7 _ _ q6
        rw [← modify_congr' (f := fun e => { e with key := a.eval Y }) q2 (by rw [← q4])] at this
        exact this
      · intro i e'' he
        rw [Array.getElem?_modify] at he
        split at he
        · simp only [Option.map_eq_some_iff] at he
          obtain ⟨e0, he0, rfl⟩ := he
          exact hborn i e0 he0
        · exact hborn i e'' he
    · refine ⟨es.push { key := a.eval Y, val := zv, born := clock }, clock + 1, zv, ?_, by rw [q2]; exact hzp, ?_, by simp [hclk], ?_⟩
      · have hcm : (clock : Int) = (mfind t key m : Int) := by rw [q3, hclk, hmlen]
        simp [Instr.mapEntry, run_underlying hT, hX, hget, hck, q1, hset, hzv, goInt, hcm]
      · rw [Array.toList_push, q2]
        exact q4 _ _ clock hzp
      · intro i e'' he
        rw [Array.getElem?_push] at he
        split at he
        · simp only [Option.some.injEq] at he; subst he; simp only; omega
        · exact hborn i e'' he
  obtain ⟨es', ck, v, h1, h2, h3, h4, h5⟩ := key
  obtain ⟨g1, g2⟩ := hc.writeObj hO rfl (o' := .mp k e t u (mput t _ (mget t z.1 _ m).1 m)) (.inr ⟨_, _, _, _, _, rfl⟩) rfl hb (by intro e t xs hh; cases hh) (by intro e t xs hh; cases hh) (.map es' ck) (by
    intro q _ hqb hqw
    refine ⟨b, es', ck, by rw [hqb]; exact hb, ?_, h3, h4, h5⟩
    rw [hqw]
    exact Array.getElem?_setIfInBounds_self_of_lt (Array.getElem?_eq_some_iff.1 hw).1)
  rw [over_cons, over_nil] at hn
  refine wp_value (v := .tuple #[v, .int .i64 (mfind t _ m : Int)]) (by simp [execOp, ho, h1]; rfl) (hn _ _ _ _ g1 g2 ⟨_, rfl, ?_⟩)
  exact ⟨_, _, rfl, ⟨_, rfl, .inr (by unfold RelL; exact plain_rd' hv4 h2)⟩, _, _, rfl, ⟨_, rfl, .inr rfl⟩, rfl⟩

theorem mapStore_ok (hE : EnvOk P c) (hc : Core F S β O w) (hs : Slots (F.rp S β O w) (lkp σ) a.tmps) {T : TypeId} {X Y V : Operand} (ho : o.op = .entryStore T X Y V) {n : Nat} (hx : gv c σ X 0 = some (.one (.mp n)))
    {j : Int} (hy : gv c σ Y 0 = some (.one (.v (.int .i64) j))) {u' : Ty} {v : u'.V} (hv : gv c σ V 0 = some (.one (.v u' v))) {k e : TypeId} {t u : Ty} {m : List (t.V × u.V)} (hO : O n = some (.mp k e t u m)) (hm : mapOk c T k e t u = true)
    {val : u.V} (hval : castV u' u v = some val) {m' : List (t.V × u.V)} (hst : mstore m j val = some m') (hn : After F S β O (over [(n, .mp k e t u m')] O) w (.one .undef) o a next) : o.wp P a w next Q := by
  obtain ⟨hT, ⟨hL, hav⟩, ⟨ve', d', hv1, hv2, hv3, hv4⟩⟩ := mapOk_spec hE hm
  obtain ⟨b, hb, hX⟩ := map_val (p := F.rp S β O w) hO (gv_rel hE hs hx)
  have hY := rel_int (gv_rel hE hs hy)
  have hV := plain_val (gv_rel hE hs hv) hval hv4
  obtain ⟨b', es, clock, hb', hw, hent, hclk, hborn⟩ := hc.obj n _ hO
  rw [hb] at hb'; simp only [Option.some.injEq, Prod.mk.injEq, and_true] at hb'; subst hb'
  simp only [Fr.rp] at hb hw
  have hget : (getObj b).run P w = .ok (.map es clock) w := by simp [getObj, Sem.run, hw]
  have hset : ∀ ob, (setObj b ob).run P w = .ok () { w with heap := w.heap.setIfInBounds b ob } := by intro ob; simp [setObj, Sem.run, hw]
  unfold mstore at hst
  split at hst
  case isFalse => cases hst
  rename_i hj0
  simp only [Option.map_eq_some_iff] at hst
  obtain ⟨p, hp, rfl⟩ := hst
  obtain ⟨i, rfl⟩ : ∃ i : Nat, j = i := ⟨j.toNat, by omega⟩
  simp only [Int.toNat_natCast] at hp hn ⊢
  have hel : es.size = m.length := by
    have := congrArg List.length hent
    simpa using this
  have hil : i < es.size := by
    have := (List.getElem?_eq_some_iff.1 hp).1
    omega
  have hfi : es.findIdx? (fun e => (e.born : Int) == (i : Int)) = some i := by
    rw [Array.findIdx?_eq_some_iff_getElem]
    refine ⟨hil, ?_, ?_⟩
    · have := hborn i _ (Array.getElem?_eq_getElem hil)
      simp [this]
    · intro q hq
      have := hborn q _ (Array.getElem?_eq_getElem (by omega))
      simp [this]; omega
  have h1 : (Instr.entryStore T (a.eval X) (a.eval Y) (a.eval V)).run P w = .ok () { w with heap := w.heap.setIfInBounds b (.map (es.modify i fun e => { e with val := a.eval V }) clock) } := by
    simp [Instr.entryStore, hX, hY, hget, hset, asInt, asIntOf, hfi]
  have hent' : EntR t u (es.modify i fun e => { e with val := a.eval V }).toList (m.set i (p.1, val)) := by
    rw [Array.toList_modify]
    apply List.ext_getElem?
    intro q
    have hq := congrArg (fun l => l[q]?) hent
    simp only [List.getElem?_map, List.getElem?_modify, List.getElem?_set] at hq ⊢
    by_cases e1 : i = q
    · subst e1
      have : i < m.length := by omega
      rw [hp] at hq
      simp only [Option.map_some] at hq
      cases he : es.toList[i]? with
      | none => rw [he] at hq; simp at hq
      | some e0 =>
        rw [he] at hq
        simp only [Option.map_some, Option.some.injEq, Prod.mk.injEq] at hq
        simp [this, hq.1, hV]
    · simp [e1]; simpa using hq
  obtain ⟨g1, g2⟩ := hc.writeObj hO rfl (o' := .mp k e t u (m.set i (p.1, val))) (.inr ⟨_, _, _, _, _, rfl⟩) rfl hb (by intro e t xs hh; cases hh) (by intro e t xs hh; cases hh) (.map (es.modify i fun e => { e with val := a.eval V }) clock) (by
    intro q _ hqb hqw
    refine ⟨b, _, clock, by rw [hqb]; exact hb, ?_, hent', by simpa using hclk, ?_⟩
    · rw [hqw]
      exact Array.getElem?_setIfInBounds_self_of_lt (Array.getElem?_eq_some_iff.1 hw).1
    · intro q e'' he
      rw [Array.getElem?_modify] at he
      split at he
      · simp only [Option.map_eq_some_iff] at he
        obtain ⟨e0, he0, rfl⟩ := he
        exact hborn q e0 he0
      · exact hborn q e'' he)
  rw [over_cons, over_nil] at hn
  refine wp_skip' ?_ (hn _ _ _ _ g1 g2 (.inl rfl))
  simp [execOp, ho, h1]
end
end Go.Proofs.R

