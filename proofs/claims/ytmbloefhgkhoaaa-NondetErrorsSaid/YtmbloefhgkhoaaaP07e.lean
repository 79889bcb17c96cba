/- Automata with choices: the construction of sets, as both texts do it. -/
import Derived.Test.YtmbloefhgkhoaaaP07d
set_option linter.unusedVariables false
set_option linter.unusedSimpArgs false
namespace Go.Proofs.C07
open Go Go.Proofs.R
open M (lt_at lt_end w_at app_at LLI)
set_option linter.unusedVariables false
set_option linter.unusedSimpArgs false
set_option maxRecDepth 100000

/-! a key for each set -/
def kt (B : LB) : ByteArray := ⟨(B.map fun b => (bif b then (49 : UInt8) else 48)).toArray⟩
theorem map_inj {α β : Type} {f : α → β} (hf : ∀ a b, f a = f b → a = b) : ∀ l m : List α, l.map f = m.map f → l = m
  | [], [], _ => rfl
  | [], _ :: _, h => by cases h
  | _ :: _, [], h => by cases h
  | a :: l, b :: m, h => by
    simp only [List.map_cons, List.cons.injEq] at h
    rw [hf a b h.1, map_inj hf l m h.2]
theorem kt_inj {B C : LB} (h : kt B = kt C) : B = C := by
  unfold kt at h
  have h1 : (B.map fun b => (bif b then (49 : UInt8) else 48)) = C.map fun b => (bif b then (49 : UInt8) else 48) := by
    have := congrArg (fun x : ByteArray => x.data.toList) h
    simpa using this
  exact map_inj (fun a b hab => by cases a <;> cases b <;> first | rfl | exact absurd hab (by decide)) B C h1
abbrev TS : Ty := .str
theorem mgetS {β : Type} (z : β) (q q' : ByteArray) (v : β) : ∀ m : List (ByteArray × β), mget TS z q' (mput TS q v m) = if q' = q then (v, true) else mget TS z q' m
  | [] => by
    show (bif decide (q' = q) then (v, true) else (z, false)) = _
    by_cases h : q' = q <;> simp [h, mget]
  | p :: m => by
    show mget TS z q' (bif decide (q = p.1) then (p.1, v) :: m else p :: mput TS q v m) = if q' = q then (v, true) else (bif decide (q' = p.1) then (p.2, true) else mget TS z q' m)
    by_cases h1 : q = p.1
    · simp only [h1, decide_true, cond_true]
      show (bif decide (q' = p.1) then (v, true) else mget TS z q' m) = _
      by_cases h2 : q' = p.1 <;> simp [h2]
    · simp only [h1, decide_false, cond_false]
      show (bif decide (q' = p.1) then (p.2, true) else mget TS z q' (mput TS q v m)) = _
      by_cases h2 : q' = p.1
      · have h3 : ¬ q' = q := fun e => h1 (by rw [← e, h2])
        rw [if_neg h3]; simp [h2]
      · simp only [h2, decide_false, cond_false]
        exact mgetS z q q' v m

/-! is a set empty? -/
def hasT (B : LB) : Bool := B.any fun b => b
theorem hasT_bat {B : LB} {n : Nat} (hB : B.length = n) : hasT B = true ↔ ∃ s : Int, (0 ≤ s ∧ s < (n : Int)) ∧ bat B s = true := by
  unfold hasT
  rw [List.any_eq_true]
  constructor
  · rintro ⟨b, h1, h2⟩
    obtain ⟨k, hk, rfl⟩ := List.getElem_of_mem h1
    exact ⟨k, by omega, by rw [bat_nat, List.getElem?_eq_getElem hk]; exact h2⟩
  · rintro ⟨s, h1, h2⟩
    obtain ⟨k, rfl⟩ : ∃ k : Nat, s = k := ⟨s.toNat, by omega⟩
    rw [bat_nat, List.getElem?_eq_getElem (by omega)] at h2
    exact ⟨_, List.getElem_mem (by omega), h2⟩
theorem mem_pos {B : LB} {n : Nat} (hB : B.length = n) : decide ((((memL B 0).length : Nat) : Int) > 0) = hasT B := by
  rw [Bool.eq_iff_iff, decide_eq_true_eq, hasT_bat hB]
  constructor
  · intro h
    cases hm : memL B 0 with
    | nil => rw [hm] at h; simp at h
    | cons s l =>
      have := (mem_bat hB s).1 (by rw [hm]; simp)
      exact ⟨s, this⟩
  · rintro ⟨s, h⟩
    have := List.length_pos_of_mem ((mem_bat hB s).2 h)
    omega
theorem memL_inj {B C : LB} {n : Nat} (hB : B.length = n) (hC : C.length = n) (h : memL B 0 = memL C 0) : B = C := by
  refine bat_ext hB hC fun s hs => ?_
  rw [Bool.eq_iff_iff]
  have h1 := mem_bat hB s
  have h2 := mem_bat hC s
  rw [h] at h1
  constructor
  · intro hb; exact (h2.1 (h1.2 ⟨hs, hb⟩)).2
  · intro hb; exact (h1.1 (h2.2 ⟨hs, hb⟩)).2

/-! the construction -/
open Classical in
noncomputable def dRow (n : Nat) (E : List Ed) (l : LB) : Nat → Nat → List LB → List Int → Option (List Int × List LB)
  | 0, _, fs, row => some (row, fs)
  | f + 1, c, fs, row =>
    if hasT (nxB n E l (c : Int)) = true then
      if nxB n E l (c : Int) ∈ fs then dRow n E l f (c + 1) fs (row ++ [((M.place (nxB n E l (c : Int)) fs : Nat) : Int)])
      else if fs.length = 400 then none else dRow n E l f (c + 1) (fs ++ [nxB n E l (c : Int)]) (row ++ [((fs.length : Nat) : Int)])
    else dRow n E l f (c + 1) fs (row ++ [-1])
noncomputable def dAll (L n : Nat) (E : List Ed) (Ac : List Int) : Nat → Nat → List LB → LLI → LB → Option (List LB × LLI × LB)
  | 0, _, fs, N, A => some (fs, N, A)
  | f + 1, i, fs, N, A => match fs[i]? with
    | none => some (fs, N, A)
    | some l => match dRow n E l L 0 fs [] with
      | none => none
      | some r => dAll L n E Ac f (i + 1) r.2 (N ++ [r.1]) (A ++ [accB Ac l])

structure Sets (n : Nat) (fs : List LB) : Prop where
  nd : fs.Nodup
  len : ∀ B ∈ fs, B.length = n
  n4 : fs.length ≤ 400
theorem Sets.put {n : Nat} {fs : List LB} (h : Sets n fs) {d : LB} (hd : d ∉ fs) (hl : d.length = n) (h4 : fs.length ≠ 400) : Sets n (fs ++ [d]) := by
  refine ⟨List.nodup_append.2 ⟨h.nd, by simp, ?_⟩, ?_, by have := h.n4; simp; omega⟩
  · intro a ha b hb hab
    have : b = d := by simpa using hb
    subst this; subst hab; exact hd ha
  · intro B hB
    rcases List.mem_append.1 hB with hB | hB
    · exact h.len B hB
    · have : B = d := by simpa using hB
      subst this; exact hl
open Classical in
def MapOk (n : Nat) (m : List (ByteArray × Int)) (fs : List LB) : Prop :=
  ∀ B : LB, mget TS (0 : Int) (kt B) m = if B ∈ fs then (((M.place B fs : Nat) : Int), true) else (0, false)
theorem MapOk.put {n : Nat} {m : List (ByteArray × Int)} {fs : List LB} (h : MapOk n m fs) {d : LB} (hd : d ∉ fs) : MapOk n (mput TS (kt d) ((fs.length : Nat) : Int) m) (fs ++ [d]) := by
  intro B
  rw [mgetS]
  by_cases hq : B = d
  · subst hq
    rw [if_pos rfl, if_pos (by simp)]
    have : M.place B (fs ++ [B]) = fs.length := by
      have := M.place_putIn (d := B) (l := fs)
      unfold M.putIn at this
      rw [if_neg hd, M.place_not hd] at this; exact this
    rw [this]
  · rw [if_neg (fun e => hq (kt_inj e)), h B]
    by_cases hm : B ∈ fs
    · rw [if_pos hm, if_pos (by simp [hm]), M.place_app hm]
    · rw [if_neg hm, if_neg (by simp [hm, hq])]

section
variable {L : Int} {n : Nat} {St : List Int} {E : List Ed} {Ac : List Int}

def errD : Int × (Int × (LLI × (LB × (Int × Unit)))) := (0, (0, ([], ([], (3, ())))))
noncomputable def minV (L S : Int) (N : LLI) (A : LB) : Int × (Int × (LLI × (LB × (Int × Unit)))) :=
  bif M.ok L S N A then (L, (M.canS (M.lang L N A S), (M.canN L (M.lang L N A S), (M.canA L (M.lang L N A S), (0, ()))))) else (0, (0, ([], ([], (1, ())))))
noncomputable def dVal (L : Int) (o : Option (List LB × LLI × LB)) : Int × (Int × (LLI × (LB × (Int × Unit)))) := match o with
  | none => errD
  | some r => minV L 0 r.2.1 r.2.2
noncomputable def detR (L S : Int) (St : List Int) (E : List Ed) (Ac : List Int) : Int × (Int × (LLI × (LB × (Int × Unit)))) :=
  bif nok L S St E Ac then (bif St.isEmpty then minV L (-1) [] [] else dVal L (dAll L.toNat S.toNat E Ac 401 0 [st0 S.toNat E St] [] [])) else (0, (0, ([], ([], (1, ())))))
/-! the reference's -/
theorem find_l2 {d : LB} (hd : d.length = n) (hn : n < 1000000) : ∀ (suf pre : List LB), (∀ B ∈ pre ++ suf, B.length = n) → (pre ++ suf).length < 1000000 → d ∉ pre →
    ancepsref07_find.l2 ((pre ++ suf).map fun B => memL B 0) (memL d 0) (pre.length : Nat) = some (@ite _ (d ∈ suf) (Classical.propDecidable _) (((pre.length + M.place d suf : Nat) : Int)) (-1), ())
  | [], pre, hl, h, hp => by
    rw [ancepsref07_find.l2_eq, List.length_map, ifB_not _ _ (lt_end pre), if_neg (by simp)]
  | x :: suf, pre, hl, h, hp => by
    have hpl : pre.length < 1000000 := by simp only [List.length_append] at h; omega
    have hx := hl x (by simp)
    have hxm := mem_len x 0
    have hix : ixAt ((pre ++ x :: suf).map fun B => memL B 0) (pre.length : Nat) = some (memL x 0) := by
      rw [ixAt_nat]; simp
    rw [ancepsref07_find.l2_eq, List.length_map, ifB_of _ _ (lt_at pre x suf), hix, bindD_some, M.requal_f _ _ (by omega), bindD_some, w_pre pre x (by omega)]
    by_cases hq : x = d
    · subst hq
      rw [ifB_of _ _ (by simp), if_pos (by simp)]
      have : M.place x (x :: suf) = 0 := by unfold M.place; rw [if_pos rfl]
      rw [this]; rfl
    · rw [ifB_not _ _ (decide_eq_false fun e => hq (memL_inj hx hd e)), app_at pre x suf, find_l2 hd hn suf (pre ++ [x]) (by rw [← app_at]; exact hl) (by rw [← app_at]; exact h) (by
        intro hm
        rcases List.mem_append.1 hm with hm | hm
        · exact hp hm
        · exact hq (List.mem_singleton.1 hm).symm)]
      by_cases hm : d ∈ suf
      · rw [if_pos hm, if_pos (by simp [hm])]
        have : M.place d (x :: suf) = M.place d suf + 1 := by
          conv => lhs; unfold M.place
          rw [if_neg hq]
        rw [this, List.length_append, List.length_singleton]
        congr 2; omega
      · rw [if_neg hm, if_neg (by simp [hm, Ne.symm hq])]
theorem find_f {d : LB} (hd : d.length = n) (hn : n < 1000000) {fs : List LB} (hl : ∀ B ∈ fs, B.length = n) (h : fs.length < 1000000) :
    ancepsref07_find.f (fs.map fun B => memL B 0) (memL d 0) = some (@ite _ (d ∈ fs) (Classical.propDecidable _) (((M.place d fs : Nat) : Int)) (-1), ()) := by
  have := find_l2 hd hn fs [] hl h (by simp)
  rw [List.nil_append, List.length_nil, Int.ofNat_zero, Nat.zero_add] at this
  rw [ancepsref07_find.f_eq, this]
end
end Go.Proofs.C07
