/- The law of Next. -/
import Derived.Test.YtheklfonahgmhaaPlain
set_option linter.unusedVariables false
set_option linter.unusedSimpArgs false
namespace Go.Proofs.C10
open Go Go.Proofs.R
set_option linter.unusedVariables false
set_option maxRecDepth 100000
theorem from_nodup (arcs : List Arc) (v : Int) : (arcsFrom arcs v).Pairwise (fun a b => a ≠ b) := by
 unfold arcsFrom idx
 refine List.Pairwise.filter _ ?_
 rw [List.pairwise_map]
 exact (List.pairwise_lt_range).imp (fun h => by omega)
theorem AP_nodup {n : Int} {arcs : List Arc} (hg : VG n arcs) : ∀ (k : Nat) (v : Int), n - v ≤ k → 0 ≤ v → v < n → (AP n arcs v).Pairwise (fun a b => a ≠ b)
 | 0, v, h, h0, h1 => by omega
 | k + 1, v, h, h0, h1 => by
  rw [AP_eq hg h0 h1]
  by_cases hv : v = n - 1
  ·rw [if_pos hv]; simp
  ·rw [if_neg hv, List.pairwise_flatMap]
   refine ⟨fun i hi => ?_, ?_⟩
   ·obtain ⟨i0, i1, i2⟩ := mem_from.1 hi
    have := hg.arc _ (ga_mem i0 i1)
    rw [List.pairwise_map]
    exact (AP_nodup hg k _ (by omega) (by omega) (by omega)).imp (fun h1 h2 => h1 (List.cons.inj h2).2)
   ·refine (from_nodup arcs v).imp ?_
    intro a b hab x hx y hy he
    obtain ⟨x', _, rfl⟩ := List.mem_map.1 hx
    obtain ⟨y', _, rfl⟩ := List.mem_map.1 hy
    exact hab (List.cons.inj he).1
theorem S_nodup {n : Int} {arcs : List Arc} (hg : VG n arcs) : (S n arcs).Pairwise (fun a b => a ≠ b) := by
 have := hg.pos
 unfold S
 rw [(sort_perm arcs _).pairwise_iff (fun h => fun e => h e.symm)]
 exact AP_nodup hg n.toNat 0 (by omega) (by omega) (by omega)
theorem S_at {n : Int} {arcs : List Arc} (hg : VG n arcs) {k : Nat} (hk : k < (S n arcs).length) : (S n arcs).findIdx (fun q => decide (q = (S n arcs)[k])) = k := by
 rw [List.findIdx_eq hk]
 refine ⟨by simp, fun j hj => ?_⟩
 have := (List.pairwise_iff_getElem.1 (S_nodup hg)) j k (by omega) hk hj
 simpa using this
theorem rank_at {n : Int} {arcs : List Arc} (he : errV n arcs = 0) (hz : (pathsR n arcs).2.1 = 0) {k : Nat} (hk : k < (S n arcs).length) : rankR n arcs (S n arcs)[k] = (((k : Nat) : Int), ((0 : Int), ())) := by
 have hg := vg_of he
 unfold rankR
 rw [if_pos he, if_pos ((S_path hg).1 (List.getElem_mem hk)), if_pos hz, S_at hg hk]
theorem next_at {n : Int} {arcs : List Arc} (he : errV n arcs = 0) (hz : (pathsR n arcs).2.1 = 0) {k : Nat} (hk : k < (S n arcs).length) : nextR n arcs (S n arcs)[k] = if h : k + 1 < (S n arcs).length then ((S n arcs)[k + 1], (0, ())) else ([], (10, ())) := by
 unfold nextR
 rw [rank_at he hz hk, if_pos rfl]
 by_cases h : k + 1 < (S n arcs).length
 ·rw [dif_pos h, if_neg (by simp only; omega)]
  have : ((k : Int) + 1).toNat = k + 1 := by omega
  simp only [this]
  rw [List.getElem?_eq_getElem h]; rfl
 ·rw [dif_neg h, if_pos (by simp only; omega)]
end Go.Proofs.C10
