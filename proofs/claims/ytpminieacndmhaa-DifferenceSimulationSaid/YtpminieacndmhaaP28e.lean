/- Plain words for the chapter of differences: sums over pairs; how many words lead to a pair. -/
import Derived.Test.YtpminieacndmhaaP28d
set_option linter.unusedVariables false
set_option linter.unusedSimpArgs false
namespace Go.Proofs.C28
open Go Go.Proofs.R
set_option linter.unusedVariables false
set_option linter.unusedSimpArgs false
set_option maxRecDepth 100000

/-! ### sums -/
def sm {α : Type} : List α → (α → Int) → Int
  | [], _ => 0
  | x :: l, f => f x + sm l f
theorem sm_app {α : Type} (f : α → Int) : ∀ l m : List α, sm (l ++ m) f = sm l f + sm m f
  | [], m => by simp [sm]
  | x :: l, m => by simp only [List.cons_append, sm, sm_app f l m]; omega
theorem sm_add {α : Type} (f g : α → Int) : ∀ l : List α, sm l (fun x => f x + g x) = sm l f + sm l g
  | [] => rfl
  | x :: l => by simp only [sm, sm_add f g l]; omega
theorem sm_congr {α : Type} {f g : α → Int} : ∀ {l : List α}, (∀ x ∈ l, f x = g x) → sm l f = sm l g
  | [], _ => rfl
  | x :: l, h => by simp only [sm]; rw [h x (by simp), sm_congr fun y hy => h y (by simp [hy])]
theorem sm_le {α : Type} {f g : α → Int} : ∀ {l : List α}, (∀ x ∈ l, f x ≤ g x) → sm l f ≤ sm l g
  | [], _ => by simp [sm]
  | x :: l, h => by
    have h1 := h x (by simp)
    have h2 := sm_le (l := l) fun y hy => h y (by simp [hy])
    simp only [sm]; omega
theorem sm_zero {α : Type} {f : α → Int} {l : List α} (h : ∀ x ∈ l, f x = 0) : sm l f = 0 := by
  rw [sm_congr (g := fun _ => 0) h]
  clear h
  induction l with
  | nil => rfl
  | cons x l ih => simp only [sm, ih]; rfl
theorem sm_nn {α : Type} {f : α → Int} : ∀ {l : List α}, (∀ x ∈ l, 0 ≤ f x) → 0 ≤ sm l f
  | [], _ => by simp [sm]
  | x :: l, h => by
    have h1 := h x (by simp)
    have h2 := sm_nn (l := l) fun y hy => h y (by simp [hy])
    simp only [sm]; omega
theorem sm_swap {α β : Type} (h : α → β → Int) : ∀ (l : List α) (m : List β), sm l (fun x => sm m (h x)) = sm m (fun y => sm l (fun x => h x y))
  | [], m => by simp only [sm]; exact (sm_zero (fun _ _ => rfl)).symm
  | x :: l, m => by
    simp only [sm]
    rw [sm_swap h l m, sm_add]
theorem sm_mem {α : Type} {f : α → Int} {l : List α} (h : ∀ x ∈ l, 0 ≤ f x) {x : α} (hx : x ∈ l) : f x ≤ sm l f := by
  induction l with
  | nil => cases hx
  | cons y l ih =>
    simp only [sm]
    have h1 := h y (by simp)
    have h2 := sm_nn (l := l) fun z hz => h z (by simp [hz])
    rcases List.mem_cons.1 hx with rfl | hx
    · omega
    · have := ih (fun z hz => h z (by simp [hz])) hx
      omega
theorem sm_mul {α : Type} (k : Int) (f : α → Int) : ∀ l : List α, sm l (fun x => k * f x) = k * sm l f
  | [] => by simp [sm]
  | x :: l => by simp only [sm, sm_mul k f l, Int.mul_add]
/-- one member of a list without repetition -/
theorem sm_single {α : Type} [DecidableEq α] (q : α) (v : Int) : ∀ l : List α, l.Nodup → sm l (fun x => if x = q then v else 0) = if q ∈ l then v else 0
  | [], _ => by simp [sm]
  | x :: l, h => by
    rw [List.nodup_cons] at h
    simp only [sm]
    rw [sm_single q v l h.2]
    by_cases e : x = q
    · subst e; simp [h.1]
    · have : ¬ q = x := fun e' => e e'.symm
      simp [e, this]

/-! ### pairs behind pairs -/
section
variable (L : Int) (Na Nb : LLI)
def ad (p : Pr) (v : Int) (c : Nat) (q : Pr) : Int := if nx Na Nb p c = q ∧ eith q = true then v else 0
def tl (p : Pr) (v : Int) : Nat → Nat → Pr → Int
  | 0, _, _ => 0
  | f + 1, c, q => ad Na Nb p v c q + tl p v f (c + 1) q
/-- how many words of a length lead to a pair -/
def cnt (R : List Pr) (p0 : Pr) : Nat → Pr → Int
  | 0, q => if q = p0 ∧ eith p0 = true then 1 else 0
  | n + 1, q => sm R fun p => tl Na Nb p (cnt R p0 n p) L.toNat 0 q
end

section
variable {L : Int} {Na Nb : LLI}
theorem ad_nn {p : Pr} {v : Int} (h : 0 ≤ v) (c : Nat) (q : Pr) : 0 ≤ ad Na Nb p v c q := by unfold ad; split <;> omega
theorem tl_nn {p : Pr} {v : Int} (h : 0 ≤ v) : ∀ (f c : Nat) (q : Pr), 0 ≤ tl Na Nb p v f c q
  | 0, _, _ => by simp [tl]
  | f + 1, c, q => by
    have h1 := ad_nn (Na := Na) (Nb := Nb) (p := p) h c q
    have h2 := tl_nn (p := p) h f (c + 1) q
    simp only [tl]; omega
theorem tl_zero (p : Pr) : ∀ (f c : Nat) (q : Pr), tl Na Nb p 0 f c q = 0
  | 0, _, _ => rfl
  | f + 1, c, q => by simp only [tl, tl_zero p f (c + 1) q]; unfold ad; split <;> rfl
theorem ad_sum {R : List Pr} (hR : R.Nodup) {p : Pr} {v : Int} (h : 0 ≤ v) (c : Nat) : sm R (ad Na Nb p v c) ≤ v := by
  refine Int.le_trans (sm_le (g := fun q => if q = nx Na Nb p c then v else 0) ?_) ?_
  · intro q _
    unfold ad
    by_cases e : nx Na Nb p c = q
    · subst e; simp only [true_and, if_true]; split <;> omega
    · have e' : ¬ q = nx Na Nb p c := fun h => e h.symm
      simp [e, e']
  · rw [sm_single _ _ _ hR]; split <;> omega
theorem tl_sum {R : List Pr} (hR : R.Nodup) {p : Pr} {v : Int} (h : 0 ≤ v) : ∀ f c : Nat, sm R (tl Na Nb p v f c) ≤ (f : Int) * v
  | 0, c => by
    have : sm R (tl Na Nb p v 0 c) = 0 := sm_zero fun _ _ => rfl
    rw [this]; simp
  | f + 1, c => by
    have h1 := tl_sum (R := R) hR (p := p) h f (c + 1)
    have h2 := ad_sum (Na := Na) (Nb := Nb) hR (p := p) h c
    have h3 : sm R (tl Na Nb p v (f + 1) c) = sm R (ad Na Nb p v c) + sm R (tl Na Nb p v f (c + 1)) := by
      rw [← sm_add]; rfl
    rw [h3]
    have h4 : ((f + 1 : Nat) : Int) * v = (f : Int) * v + v := by rw [Int.natCast_add, Int.add_mul]; simp
    rw [h4]; omega
theorem tl_out {R : List Pr} (hcl : ∀ p ∈ R, ∀ c : Nat, (c : Int) < L → eith (nx Na Nb p c) = true → nx Na Nb p c ∈ R) {p : Pr} (hp : p ∈ R) {v : Int} : ∀ (f c : Nat) (q : Pr), (c : Int) + f ≤ L → q ∉ R → tl Na Nb p v f c q = 0
  | 0, _, _, _, _ => rfl
  | f + 1, c, q, hc, hq => by
    simp only [tl]
    rw [tl_out hcl hp f (c + 1) q (by omega) hq]
    unfold ad
    rw [if_neg ?_]
    · rfl
    · rintro ⟨rfl, h⟩
      exact hq (hcl p hp c (by omega) h)

variable {R : List Pr} {p0 : Pr}
theorem cnt_nn : ∀ (n : Nat) (q : Pr), 0 ≤ cnt L Na Nb R p0 n q
  | 0, q => by simp only [cnt]; split <;> omega
  | n + 1, q => by simp only [cnt]; exact sm_nn fun p _ => tl_nn (cnt_nn n p) _ _ _
theorem cnt_sum (hR : R.Nodup) (hL : 1 ≤ L ∧ L ≤ 8) : ∀ n : Nat, sm R (cnt L Na Nb R p0 n) ≤ 8 ^ n
  | 0 => by
    refine Int.le_trans (sm_le (g := fun q => if q = p0 then 1 else 0) ?_) ?_
    · intro q _
      simp only [cnt]
      by_cases e : q = p0
      · simp only [e, true_and, if_true]; split <;> omega
      · simp [e]
    · rw [sm_single _ _ _ hR]; split <;> simp
  | n + 1 => by
    have h1 : sm R (cnt L Na Nb R p0 (n + 1)) = sm R (fun p => sm R (tl Na Nb p (cnt L Na Nb R p0 n p) L.toNat 0)) := by
      have := sm_swap (fun p q => tl Na Nb p (cnt L Na Nb R p0 n p) L.toNat 0 q) R R
      rw [this]; rfl
    have h2 : sm R (fun p => sm R (tl Na Nb p (cnt L Na Nb R p0 n p) L.toNat 0)) ≤ sm R (fun p => 8 * cnt L Na Nb R p0 n p) := by
      refine sm_le fun p _ => ?_
      have h3 := tl_sum (Na := Na) (Nb := Nb) hR (p := p) (cnt_nn (L := L) (Na := Na) (Nb := Nb) (R := R) (p0 := p0) n p) L.toNat 0
      have h4 : (L.toNat : Int) = L := by omega
      rw [h4] at h3
      have h5 : L * cnt L Na Nb R p0 n p ≤ 8 * cnt L Na Nb R p0 n p := Int.mul_le_mul_of_nonneg_right hL.2 (cnt_nn n p)
      omega
    rw [sm_mul] at h2
    have h3 := cnt_sum hR hL n
    have h4 : (8 : Int) ^ (n + 1) = 8 * 8 ^ n := by rw [Int.pow_succ]; omega
    rw [h1, h4]; omega
theorem cnt_out (hL : 1 ≤ L ∧ L ≤ 8) (hcl : ∀ p ∈ R, ∀ c : Nat, (c : Int) < L → eith (nx Na Nb p c) = true → nx Na Nb p c ∈ R) (h0 : eith p0 = true → p0 ∈ R) : ∀ (n : Nat) (q : Pr), q ∉ R → cnt L Na Nb R p0 n q = 0
  | 0, q, hq => by
    simp only [cnt]
    rw [if_neg]
    rintro ⟨rfl, h⟩
    exact hq (h0 h)
  | n + 1, q, hq => by
    simp only [cnt]
    exact sm_zero fun p hp => tl_out hcl hp _ _ _ (by omega) hq
end

/-! ### maps of counts -/
section
variable {R : List Pr}
structure Rep (R : List Pr) (M : List (Pr × Int)) (f : Pr → Int) : Prop where
  nd : (M.map (·.1)).Nodup
  val : ∀ e ∈ M, f e.1 = e.2
  out : ∀ q, q ∉ M.map (·.1) → f q = 0
  inR : ∀ e ∈ M, e.1 ∈ R
theorem Rep.nil : Rep R [] fun _ => 0 := ⟨by simp, by simp, by simp, by simp⟩
theorem Rep.congr {M : List (Pr × Int)} {f g : Pr → Int} (h : Rep R M f) (e : ∀ q, f q = g q) : Rep R M g := by
  have : f = g := funext e
  subst this; exact h

theorem mget_rep {f : Pr → Int} (q : Pr) : ∀ {M : List (Pr × Int)}, (∀ e ∈ M, f e.1 = e.2) → (q ∉ M.map (·.1) → f q = 0) → (mget TP (0 : Int) q M).1 = f q
  | [], _, h => (h (by simp)).symm
  | e :: M, hv, ho => by
    simp only [mget, keyEq_pair]
    by_cases h : q = e.1
    · subst h; simp; exact (hv e (by simp)).symm
    · simp only [h, decide_false, cond_false]
      refine mget_rep q (fun x hx => hv x (by simp [hx])) (fun hn => ho ?_)
      simp only [List.map_cons, List.mem_cons, not_or]
      exact ⟨h, hn⟩
theorem Rep.get {M : List (Pr × Int)} {f : Pr → Int} (h : Rep R M f) (q : Pr) : (mget TP (0 : Int) q M).1 = f q := mget_rep q h.val (h.out q)

theorem keys_mput (q : Pr) (v : Int) : ∀ M : List (Pr × Int), (mput TP q v M).map (·.1) = if q ∈ M.map (·.1) then M.map (·.1) else M.map (·.1) ++ [q]
  | [] => by simp [mput]
  | e :: M => by
    simp only [mput, keyEq_pair]
    by_cases h : q = e.1
    · subst h; simp
    · simp only [h, decide_false, cond_false, List.map_cons, List.mem_cons, false_or, keys_mput q v M]
      split <;> simp
theorem mem_mput (q : Pr) (v : Int) : ∀ {M : List (Pr × Int)}, (M.map (·.1)).Nodup → ∀ e ∈ mput TP q v M, e = (q, v) ∨ (e ∈ M ∧ e.1 ≠ q)
  | [], _, e, he => by simp [mput] at he; exact .inl he
  | x :: M, hn, e, he => by
    simp only [List.map_cons, List.nodup_cons] at hn
    simp only [mput, keyEq_pair] at he
    by_cases h : q = x.1
    · subst h
      simp only [decide_true, cond_true, List.mem_cons] at he
      rcases he with rfl | he
      · exact .inl rfl
      · refine .inr ⟨by simp [he], ?_⟩
        intro e1
        exact hn.1 (List.mem_map.2 ⟨e, he, e1⟩)
    · simp only [h, decide_false, cond_false, List.mem_cons] at he
      rcases he with rfl | he
      · exact .inr ⟨by simp, fun e1 => h e1.symm⟩
      · rcases mem_mput q v hn.2 e he with h1 | ⟨h1, h2⟩
        · exact .inl h1
        · exact .inr ⟨by simp [h1], h2⟩

theorem Rep.put {M : List (Pr × Int)} {f : Pr → Int} (h : Rep R M f) {q : Pr} (hq : q ∈ R) (v : Int) : Rep R (mput TP q v M) (fun r => if r = q then v else f r) := by
  refine ⟨?_, ?_, ?_, ?_⟩
  · rw [keys_mput]
    split
    · exact h.nd
    · rename_i hn
      rw [List.nodup_append]
      refine ⟨h.nd, by simp, ?_⟩
      intro x hx y hy
      simp only [List.mem_cons, List.not_mem_nil, or_false] at hy
      subst hy
      rintro rfl
      exact hn hx
  · intro e he
    rcases mem_mput q v h.nd e he with rfl | ⟨h1, h2⟩
    · simp
    · simp only [if_neg h2]; exact h.val e h1
  · intro r hr
    rw [keys_mput] at hr
    have hne : r ≠ q ∧ r ∉ M.map (·.1) := by
      split at hr
      · rename_i hq'
        exact ⟨fun e => hr (e ▸ hq'), hr⟩
      · simp only [List.mem_append, List.mem_cons, List.not_mem_nil, or_false, not_or] at hr
        exact ⟨hr.2, hr.1⟩
    simp only [if_neg hne.1]
    exact h.out r hne.2
  · intro e he
    rcases mem_mput q v h.nd e he with rfl | ⟨h1, h2⟩
    · exact hq
    · exact h.inR e h1

theorem mstore_mput (q : Pr) (v0 v : Int) : ∀ M : List (Pr × Int), mstore (mput TP q v0 M) ((mfind TP q M : Nat) : Int) v = some (mput TP q v M) := by
  have key : ∀ M : List (Pr × Int), ((mput TP q v0 M)[mfind TP q M]?).map (fun p => (mput TP q v0 M).set (mfind TP q M) (p.1, v)) = some (mput TP q v M) := by
    intro M
    induction M with
    | nil => simp [mput, mfind]
    | cons e M ih =>
      simp only [mput, mfind, keyEq_pair]
      by_cases h : q = e.1
      · simp [h]
      · simp only [h, decide_false, cond_false, List.getElem?_cons_succ, List.set_cons_succ]
        cases hg : (mput TP q v0 M)[mfind TP q M]? with
        | none => rw [hg] at ih; cases ih
        | some x =>
          rw [hg] at ih
          simp only [Option.map_some, Option.some.injEq] at ih ⊢
          rw [ih]
  intro M
  unfold mstore
  rw [if_pos (by omega)]
  simp only [Int.toNat_natCast]
  exact key M

/-- sums over a map's entries are sums over all pairs -/
theorem rep_sum {h : Pr → Int → Int} (h0 : ∀ p, h p 0 = 0) : ∀ (M : List (Pr × Int)) (R : List Pr) (f : Pr → Int), R.Nodup → (M.map (·.1)).Nodup → (∀ e ∈ M, f e.1 = e.2) → (∀ q, q ∉ M.map (·.1) → f q = 0) → (∀ e ∈ M, e.1 ∈ R) →
    sm M (fun e => h e.1 e.2) = sm R (fun p => h p (f p))
  | [], R, f, _, _, _, ho, _ => by
    simp only [sm]
    refine (sm_zero fun p _ => ?_).symm
    rw [ho p (by simp), h0]
  | e :: M, R, f, hR, hM, hv, ho, hin => by
    simp only [List.map_cons, List.nodup_cons] at hM
    have he : e.1 ∈ R := hin e (by simp)
    have hsplit : sm R (fun p => h p (f p)) = h e.1 e.2 + sm R (fun p => h p ((fun q => if q = e.1 then 0 else f q) p)) := by
      have h1 : sm R (fun p => h p (f p)) = sm R (fun p => (if p = e.1 then h e.1 e.2 else 0) + h p ((fun q => if q = e.1 then 0 else f q) p)) := by
        refine sm_congr fun p _ => ?_
        by_cases hp : p = e.1
        · subst hp; simp [hv e (by simp), h0]
        · simp [hp]
      rw [h1, sm_add, sm_single _ _ _ hR, if_pos he]
    rw [hsplit]
    simp only [sm]
    rw [rep_sum h0 M R (fun q => if q = e.1 then 0 else f q) hR hM.2 ?_ ?_ (fun x hx => hin x (by simp [hx]))]
    · intro x hx
      have hne : x.1 ≠ e.1 := fun e1 => hM.1 (List.mem_map.2 ⟨x, hx, e1⟩)
      simp only [if_neg hne]
      exact hv x (by simp [hx])
    · intro q hq
      by_cases hqe : q = e.1
      · simp [hqe]
      · simp only [if_neg hqe]
        refine ho q ?_
        simp only [List.map_cons, List.mem_cons, not_or]
        exact ⟨hqe, hq⟩
end

/-! ### what has not come yet of a walk -/
def us (c : Nat → Int) (seen : List Nat) : Nat → Int
  | 0 => 0
  | k + 1 => us c seen k + if k ∈ seen then 0 else c k
def un (seen : List Nat) : Nat → Nat
  | 0 => 0
  | k + 1 => un seen k + if k ∈ seen then 0 else 1
theorem us_far (c : Nat → Int) (seen : List Nat) (j : Nat) : ∀ k, k ≤ j → us c (seenAdd seen j) k = us c seen k
  | 0, _ => rfl
  | k + 1, h => by
    simp only [us]
    rw [us_far c seen j k (by omega)]
    have : k ≠ j := by omega
    simp [seenAdd, this]
theorem us_add (c : Nat → Int) {seen : List Nat} {j : Nat} (hj : j ∉ seen) : ∀ k, j < k → us c seen k = c j + us c (seenAdd seen j) k
  | 0, h => by omega
  | k + 1, h => by
    simp only [us]
    by_cases e : j = k
    · subst e
      rw [us_far c seen j j (Nat.le_refl _)]
      simp [hj, seenAdd]; omega
    · rw [us_add c hj k (by omega)]
      have : k ≠ j := fun e' => e e'.symm
      have : (k ∈ seenAdd seen j) ↔ (k ∈ seen) := by simp [seenAdd, this]
      simp only [this]; omega
theorem un_far (seen : List Nat) (j : Nat) : ∀ k, k ≤ j → un (seenAdd seen j) k = un seen k
  | 0, _ => rfl
  | k + 1, h => by
    simp only [un]
    rw [un_far seen j k (by omega)]
    have : k ≠ j := by omega
    simp [seenAdd, this]
theorem un_add {seen : List Nat} {j : Nat} (hj : j ∉ seen) : ∀ k, j < k → un seen k = 1 + un (seenAdd seen j) k
  | 0, h => by omega
  | k + 1, h => by
    simp only [un]
    by_cases e : j = k
    · subst e
      rw [un_far seen j j (Nat.le_refl _)]
      simp [hj, seenAdd]; omega
    · rw [un_add hj k (by omega)]
      have : k ≠ j := fun e' => e e'.symm
      have : (k ∈ seenAdd seen j) ↔ (k ∈ seen) := by simp [seenAdd, this]
      simp only [this]; omega
theorem us_none (c : Nat → Int) {seen : List Nat} : ∀ k, (∀ j, j < k → j ∈ seen) → us c seen k = 0
  | 0, _ => rfl
  | k + 1, h => by
    simp only [us]
    rw [us_none c k (fun j hj => h j (by omega)), if_pos (h k (by omega))]; rfl
theorem us_list {α : Type} (g : α → Int) : ∀ l : List α, us (fun j => match l[j]? with | some e => g e | none => 0) [] l.length = sm l g := by
  have key : ∀ (l : List α) (n : Nat), n ≤ l.length → us (fun j => match l[j]? with | some e => g e | none => 0) [] n = sm (l.take n) g := by
    intro l n
    induction n with
    | zero => intro _; simp [us, sm]
    | succ n ih =>
      intro h
      simp only [us]
      rw [ih (by omega), List.take_add_one, sm_app]
      have : l[n]? = some (l[n]'(by omega)) := List.getElem?_eq_getElem (by omega)
      rw [this]
      simp [sm]
  intro l
  rw [key l l.length (Nat.le_refl _), List.take_length]
theorem entry_at {α : Type} {xs : List α} {k : Nat} {seen : List Nat} {j : Nat} {x : α} (hl : xs.length = k) (hx : xs[j]? = some x) : entryAt xs k (seenAdd seen j) = some x := by
  unfold entryAt seenAdd
  rw [if_pos hl]
  simp [hx]
end Go.Proofs.C28
