/- Product: the law. -/
import Derived.Test.YtbbikmikiefcoaaP06l
set_option linter.unusedVariables false
set_option linter.unusedSimpArgs false
namespace Go.Proofs.C06
open Go Go.Proofs.R
set_option linter.unusedVariables false
set_option linter.unusedSimpArgs false
set_option maxRecDepth 100000

section
variable {L Sa Sb : Int} {Na Nb : LLI} {Aa Ab : LB}
def keysL (l : List Vis) : List Pr := l.map (·.1)
structure Pairs (L : Int) (Na Nb : LLI) (l : List Vis) : Prop where
  nd : (keysL l).Nodup
  u : ∀ v ∈ l, inU Na Nb v.1
  d : ∀ v ∈ l, ∀ c : Nat, (c : Int) < L → nx Na Nb v.1 c ∈ keysL l
  n : l.length ≤ 160801
/-! ### numbers of pairs -/
def Nums (m : List (Pr × Int)) (ks : List Pr) : Prop := ∀ q ∈ ks, (mget TP (0 : Int) q m).1 = ((place q ks : Nat) : Int)
theorem Nums.put {m : List (Pr × Int)} {ks : List Pr} (h : Nums m ks) {q : Pr} (hq : q ∉ ks) : Nums (mput TP q ((ks.length : Nat) : Int) m) (ks ++ [q]) := by
  intro p hp
  rw [mget_mput]
  by_cases e : p = q
  · subst e
    have hpi : putIn p ks = ks ++ [p] := by unfold putIn; rw [if_neg hq]
    rw [if_pos rfl, ← hpi, place_putIn, place_not hq]
  · rw [if_neg e]
    have hm : p ∈ ks := by
      rcases List.mem_append.1 hp with hp | hp
      · exact hp
      · simp at hp; exact absurd hp e
    rw [h p hm, place_app hm]

end
end Go.Proofs.C06
