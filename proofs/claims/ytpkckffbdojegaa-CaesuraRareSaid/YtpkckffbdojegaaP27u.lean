/- Rare: the law, joined. -/
import Derived.Test.YtpkckffbdojegaaP27t
set_option linter.unusedVariables false
set_option linter.unusedSimpArgs false
namespace Go.Proofs.Q27
open Go Go.Proofs.R
set_option linter.unusedVariables false
set_option linter.unusedSimpArgs false
set_option maxRecDepth 100000
theorem rare_l13 {l : LLI} (h2 : l.length ≤ 210) : ∀ (suf pre : LLI), pre ++ suf = l → (∀ x ∈ suf, x.length ≤ 1000) → ancepslaw27_CaesuraRare.l13 l ((l.length : Nat) : Int) (pre.length : Nat) l = some (true, ())
  | [], pre, h, hs => by
    have hl : pre.length = l.length := by rw [← h]; simp
    obtain ⟨r, e, h3, h4, h5⟩ := rare_f h2
    rw [ancepslaw27_CaesuraRare.l13_eq, ifB_not _ _ (decide_eq_false (by omega)), h4, h5, bindD_some, bindD_some, ifB_of _ _ (by simp), eq_f h3]; rfl
  | x :: suf, pre, h, hs => by
    have hlt : pre.length < l.length := by rw [← h]; simp
    have hx : l[pre.length]? = some x := by rw [← h, List.getElem?_append_right (Nat.le_refl _)]; simp
    have hix : ixAt l ((pre.length : Nat) : Int) = some x := by rw [ixAt_nat, hx]
    have hset : setRow l ((pre.length : Nat) : Int) x = l := by
      unfold setRow
      rw [Int.toNat_natCast]
      apply List.ext_getElem?
      intro k
      rw [List.getElem?_set]
      by_cases e : pre.length = k
      · subst e; rw [if_pos rfl, if_pos hlt, hx]
      · rw [if_neg e]
    have ih := rare_l13 h2 suf (pre ++ [x]) (by rw [← h]; simp) (fun y hy => hs y (List.mem_cons_of_mem _ hy))
    have hxl := hs x List.mem_cons_self
    rw [ancepslaw27_CaesuraRare.l13_eq, ifB_of _ _ (decide_eq_true (by omega)), hix, bindD_some, clone_f (by omega), bindD_some, bindD_some, bindD_some, hset, w64_succ (by omega)]
    rw [List.length_append, List.length_singleton] at ih
    exact ih
theorem rare_l5 {l : LLI} (h2 : l.length ≤ 210) (hb : ∀ x ∈ l, x.length ≤ 140737488351232) : ∀ (suf pre : LLI) (s : Nat), pre ++ suf = l → s ≤ pre.length * 140737488351232 → (∀ x ∈ pre, x.length ≤ s) →
    ancepslaw27_CaesuraRare.l5 l (s : Int) l ((l.length : Nat) : Int) (pre.length : Nat) = some (true, ())
  | [], pre, s, h, hs, hp => by
    have hl : pre.length = l.length := by rw [← h]; simp
    rw [List.append_nil] at h
    rw [ancepslaw27_CaesuraRare.l5_eq, ifB_not _ _ (decide_eq_false (by omega))]
    by_cases h3 : (s : Int) > 1000
    · rw [ifB_of _ _ (decide_eq_true h3)]
    · rw [ifB_not _ _ (decide_eq_false h3), slices_Clone_int_int_34.f_eq, grow_ok (by omega), bindD_some, bindD_some]
      exact rare_l13 h2 l [] rfl (fun x hx => by have := hp x (by rw [h]; exact hx); omega)
  | x :: suf, pre, s, h, hs, hp => by
    have hlt : pre.length < l.length := by rw [← h]; simp
    have hix : ixAt l ((pre.length : Nat) : Int) = some x := by rw [ixAt_nat, ← h, List.getElem?_append_right (Nat.le_refl _)]; simp
    have hxb := hb x (by rw [← h]; simp)
    have ih := rare_l5 h2 hb suf (pre ++ [x]) (s + x.length) (by rw [← h]; simp) (by rw [List.length_append, List.length_singleton]; omega) (fun y hy => by
      rcases List.mem_append.1 hy with hy | hy
      · have := hp y hy; omega
      · rw [List.mem_singleton] at hy; subst hy; omega)
    rw [ancepslaw27_CaesuraRare.l5_eq, ifB_of _ _ (decide_eq_true (by omega)), hix, bindD_some, w64_succ (by omega), w64 (by omega)]
    rw [List.length_append, List.length_singleton, Int.natCast_add] at ih
    exact ih
theorem rare_law (l : LLI) (hb : ∀ x ∈ l, x.length ≤ 140737488351232) : ancepslaw27_CaesuraRare.f l = some (true, ()) := by
  rw [ancepslaw27_CaesuraRare.f_eq, awake_f, bindD_some, ifB_not _ _ (by rfl)]
  by_cases h : ((l.length : Nat) : Int) > 210
  · rw [ifB_of _ _ (decide_eq_true h)]; rfl
  · rw [ifB_not _ _ (decide_eq_false h)]
    exact rare_l5 (by omega) hb l [] 0 rfl (by simp) (fun _ h => by cases h)
end Go.Proofs.Q27
