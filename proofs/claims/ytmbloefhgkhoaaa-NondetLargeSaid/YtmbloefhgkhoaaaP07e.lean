/- Automata with choices: the construction of sets, as both texts do it. -/
import Derived.Test.YtmbloefhgkhoaaaP07d
set_option linter.unusedVariables false
set_option linter.unusedSimpArgs false
namespace Go.Proofs.C07
open Go Go.Proofs.R
open M (lt_at lt_end w_at app_at LLI)
set_option linter.unusedVariables false
set_option linter.unusedSimpArgs false
set_option maxRecDepth 100000

/-! a key for each set -/
def kt (B : LB) : ByteArray := ⟨(B.map fun b => (bif b then (49 : UInt8) else 48)).toArray⟩
theorem map_inj {α β : Type} {f : α → β} (hf : ∀ a b, f a = f b → a = b) : ∀ l m : List α, l.map f = m.map f → l = m
  | [], [], _ => rfl
  | [], _ :: _, h => by cases h
  | _ :: _, [], h => by cases h
  | a :: l, b :: m, h => by
    simp only [List.map_cons, List.cons.injEq] at h
    rw [hf a b h.1, map_inj hf l m h.2]
theorem kt_inj {B C : LB} (h : kt B = kt C) : B = C := by
  unfold kt at h
  have h1 : (B.map fun b => (bif b then (49 : UInt8) else 48)) = C.map fun b => (bif b then (49 : UInt8) else 48) := by
    have := congrArg (fun x : ByteArray => x.data.toList) h
    simpa using this
  exact map_inj (fun a b hab => by cases a <;> cases b <;> first | rfl | exact absurd hab (by decide)) B C h1
abbrev TS : Ty := .str
theorem mgetS {β : Type} (z : β) (q q' : ByteArray) (v : β) : ∀ m : List (ByteArray × β), mget TS z q' (mput TS q v m) = if q' = q then (v, true) else mget TS z q' m
  | [] => by
    show (bif decide (q' = q) then (v, true) else (z, false)) = _
    by_cases h : q' = q <;> simp [h, mget]
  | p :: m => by
    show mget TS z q' (bif decide (q = p.1) then (p.1, v) :: m else p :: mput TS q v m) = if q' = q then (v, true) else (bif decide (q' = p.1) then (p.2, true) else mget TS z q' m)
    by_cases h1 : q = p.1
    · simp only [h1, decide_true, cond_true]
      show (bif decide (q' = p.1) then (v, true) else mget TS z q' m) = _
      by_cases h2 : q' = p.1 <;> simp [h2]
    · simp only [h1, decide_false, cond_false]
      show (bif decide (q' = p.1) then (p.2, true) else mget TS z q' (mput TS q v m)) = _
      by_cases h2 : q' = p.1
      · have h3 : ¬ q' = q := fun e => h1 (by rw [← e, h2])
        rw [if_neg h3]; simp [h2]
      · simp only [h2, decide_false, cond_false]
        exact mgetS z q q' v m

/-! is a set empty? -/
def hasT (B : LB) : Bool := B.any fun b => b
/-! the construction -/
structure Sets (n : Nat) (fs : List LB) : Prop where
  nd : fs.Nodup
  len : ∀ B ∈ fs, B.length = n
  n4 : fs.length ≤ 400
theorem Sets.put {n : Nat} {fs : List LB} (h : Sets n fs) {d : LB} (hd : d ∉ fs) (hl : d.length = n) (h4 : fs.length ≠ 400) : Sets n (fs ++ [d]) := by
  refine ⟨List.nodup_append.2 ⟨h.nd, by simp, ?_⟩, ?_, by have := h.n4; simp; omega⟩
  · intro a ha b hb hab
    have : b = d := by simpa using hb
    subst this; subst hab; exact hd ha
  · intro B hB
    rcases List.mem_append.1 hB with hB | hB
    · exact h.len B hB
    · have : B = d := by simpa using hB
      subst this; exact hl
open Classical in
def MapOk (n : Nat) (m : List (ByteArray × Int)) (fs : List LB) : Prop :=
  ∀ B : LB, mget TS (0 : Int) (kt B) m = if B ∈ fs then (((M.place B fs : Nat) : Int), true) else (0, false)
theorem MapOk.put {n : Nat} {m : List (ByteArray × Int)} {fs : List LB} (h : MapOk n m fs) {d : LB} (hd : d ∉ fs) : MapOk n (mput TS (kt d) ((fs.length : Nat) : Int) m) (fs ++ [d]) := by
  intro B
  rw [mgetS]
  by_cases hq : B = d
  · subst hq
    rw [if_pos rfl, if_pos (by simp)]
    have : M.place B (fs ++ [B]) = fs.length := by
      have := M.place_putIn (d := B) (l := fs)
      unfold M.putIn at this
      rw [if_neg hd, M.place_not hd] at this; exact this
    rw [this]
  · rw [if_neg (fun e => hq (kt_inj e)), h B]
    by_cases hm : B ∈ fs
    · rw [if_pos hm, if_pos (by simp [hm]), M.place_app hm]
    · rw [if_neg hm, if_neg (by simp [hm, hq])]

section
variable {L : Int} {n : Nat} {St : List Int} {E : List Ed} {Ac : List Int}

/-! the reference's -/
end
end Go.Proofs.C07
