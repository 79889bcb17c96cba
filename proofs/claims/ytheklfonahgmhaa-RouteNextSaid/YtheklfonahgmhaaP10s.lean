/- The law of Next. -/
import Derived.Test.YtheklfonahgmhaaPlain
set_option linter.unusedVariables false
set_option linter.unusedSimpArgs false
namespace Go.Proofs.C10
open Go Go.Proofs.R
set_option linter.unusedVariables false
set_option maxRecDepth 100000
theorem from_nodup (arcs : List Arc) (v : Int) : (arcsFrom arcs v).Pairwise (fun a b => a ≠ b) := by
 unfold arcsFrom idx
 refine List.Pairwise.filter _ ?_
 rw [List.pairwise_map]
 exact (List.pairwise_lt_range).imp (fun h => by omega)
theorem AP_nodup {n : Int} {arcs : List Arc} (hg : VG n arcs) : ∀ (k : Nat) (v : Int), n - v ≤ k → 0 ≤ v → v < n → (AP n arcs v).Pairwise (fun a b => a ≠ b)
 | 0, v, h, h0, h1 => by omega
 | k + 1, v, h, h0, h1 => by
  rw [AP_eq hg h0 h1]
  by_cases hv : v = n - 1
  ·rw [if_pos hv]; simp
  ·rw [if_neg hv, List.pairwise_flatMap]
   refine ⟨fun i hi => ?_, ?_⟩
   ·obtain ⟨i0, i1, i2⟩ := mem_from.1 hi
    have := hg.arc _ (ga_mem i0 i1)
    rw [List.pairwise_map]
    exact (AP_nodup hg k _ (by omega) (by omega) (by omega)).imp (fun h1 h2 => h1 (List.cons.inj h2).2)
   ·refine (from_nodup arcs v).imp ?_
    intro a b hab x hx y hy he
    obtain ⟨x', _, rfl⟩ := List.mem_map.1 hx
    obtain ⟨y', _, rfl⟩ := List.mem_map.1 hy
    exact hab (List.cons.inj he).1
theorem S_nodup {n : Int} {arcs : List Arc} (hg : VG n arcs) : (S n arcs).Pairwise (fun a b => a ≠ b) := by
 have := hg.pos
 unfold S
 rw [(sort_perm arcs _).pairwise_iff (fun h => fun e => h e.symm)]
 exact AP_nodup hg n.toNat 0 (by omega) (by omega) (by omega)
theorem S_at {n : Int} {arcs : List Arc} (hg : VG n arcs) {k : Nat} (hk : k < (S n arcs).length) : (S n arcs).findIdx (fun q => decide (q = (S n arcs)[k])) = k := by
 rw [List.findIdx_eq hk]
 refine ⟨by simp, fun j hj => ?_⟩
 have := (List.pairwise_iff_getElem.1 (S_nodup hg)) j k (by omega) hk hj
 simpa using this
theorem rank_at {n : Int} {arcs : List Arc} (he : errV n arcs = 0) (hz : (pathsR n arcs).2.1 = 0) {k : Nat} (hk : k < (S n arcs).length) : rankR n arcs (S n arcs)[k] = (((k : Nat) : Int), ((0 : Int), ())) := by
 have hg := vg_of he
 unfold rankR
 rw [if_pos he, if_pos ((S_path hg).1 (List.getElem_mem hk)), if_pos hz, S_at hg hk]
theorem law_next (n : Int) (arcs : List Arc) (path : List Int) : ancepslaw10_RouteNext.f n arcs path = some (true, ()) := by
 rw [ancepslaw10_RouteNext.f_eq, awake_eq, few_eq]
 simp only [bindD, Option.bind_some, Bool.not_true, ifB_false]
 cases hf : fewV n arcs with
 | false => rfl
 | true =>
  simp only [Bool.not_true, ifB_false]
  by_cases h1 : (path.length : Int) > 100
  ·rw [ifB_pos h1]
  rw [ifB_neg h1, copied_eq n arcs (few_len hf), clone_eq path (by omega)]
  simp only [Option.bind_some]
  rw [next_eq n arcs path (by omega), refNext_eq n arcs path (by omega), rank_eq n arcs path (by omega), refRank_eq n arcs path (by omega)]
  simp only [Option.bind_some, bne_self_eq_false, ifB_false]
  have hs : (nextR n arcs path).1.length < 4611686018427387904 := by
   unfold nextR
   by_cases h : (rankR n arcs path).2.1 = 0
   ·rw [if_pos h]
    rcases rank_cases n arcs path with ⟨_, he, hp, hz, hr⟩ | ⟨h1, _⟩
    ·split
     ·simp
     ·show ((S n arcs)[_]?.getD []).length < _
      cases hx : (S n arcs)[((rankR n arcs path).1 + 1).toNat]? with
      | none => simp
      | some q => have := S_short (vg_of he) (List.mem_of_getElem? hx); simp only [Option.getD_some]; omega
    ·exact absurd h h1
   ·rw [if_neg h]; simp
  rw [equal_eq _ _ hs]
  simp only [Option.bind_some, decide_true, Bool.not_true, ifB_false, bne_dec]
  by_cases hz : (nextR n arcs path).2.1 = 0
  ·rw [decide_eq_true hz, Bool.not_true, ifB_false]
   have hr0 : (rankR n arcs path).2.1 = 0 := by
    unfold nextR at hz
    by_cases h : (rankR n arcs path).2.1 = 0
    ·exact h
    ·rw [if_neg h] at hz; exact hz
   obtain ⟨r0, r1, r2, r3⟩ := rank_lt hr0
   have hne : ¬ (rankR n arcs path).1 + 1 = ((S n arcs).length : Nat) := by
    intro h
    unfold nextR at hz
    rw [if_pos hr0, if_pos h] at hz; cases hz
   have hnx : (nextR n arcs path).1 = (S n arcs)[((rankR n arcs path).1 + 1).toNat]?.getD [] := by unfold nextR; rw [if_pos hr0, if_neg hne]
   rw [rank_eq n arcs _ hs]
   simp only [Option.bind_some]
   rcases rank_cases n arcs path with ⟨_, he, hp, hzp, hr⟩ | ⟨h1, _⟩
   ·have hg := vg_of he
    obtain ⟨k, hk⟩ : ∃ k : Nat, (k : Int) = (rankR n arcs path).1 + 1 := ⟨((rankR n arcs path).1 + 1).toNat, by omega⟩
    have hkl : k < (S n arcs).length := by omega
    have hq : (nextR n arcs path).1 = (S n arcs)[k] := by rw [hnx, ← hk, Int.toNat_natCast, List.getElem?_eq_getElem hkl]; rfl
    have hrk := rank_at he hzp hkl
    rw [hq, hrk]
    show ifB ((0 : Int) == 0) (some ((k : Int) == IntKind.i64.wrap ((rankR n arcs path).1 + 1), ())) (some (false, ())) = some (true, ())
    rw [wrap_in (by omega) (by omega), ← hk, beq_self_eq_true, beq_self_eq_true]; rfl
   ·exact absurd hr0 h1
  ·rw [decide_eq_false hz]; simp [ifB]
end Go.Proofs.C10
