/- What sorting does with a row, and with the row of a struct. No condition. -/
import Derived.Test.YtmbloefhgkhoaaaI07
import Derived.Test.YtmbloefhgkhoaaaRSort
import Derived.Test.YtmbloefhgkhoaaaRRev
set_option linter.unusedVariables false
set_option linter.unusedSimpArgs false
namespace Go.Proofs.C07
open Go Go.Proofs.R
open Go.Shelf Go.RowKit
set_option linter.unusedVariables false
/-! sorting -/
def sortRen : Ren := ⟨fun | 6 => 90 | 15 => 98 | 14 => 97 | 28 => 109 | 29 => 110 | 20 => 101 | 21 => 102 | 22 => 103 | 23 => 104 | 24 => 105 | 25 => 106 | 26 => 107 | 27 => 108 | 46 => 111 | 47 => 112 | 48 => 113 | 49 => 114 | 50 => 115 | 57 => 116 | n => n, fun | 22 => 23 | 24 => 74 | 25 => 97 | 3 => 3 | 39 => 124 | 0 => 0 | 53 => 137 | 55 => 139 | 4 => 4 | 46 => 131 | 45 => 130 | 50 => 87 | 5 => 5 | 9 => 9 | 66 => 140 | 70 => 144 | 76 => 146 | 77 => 147 | n => n, fun | n => n⟩
theorem laysSort : SlLaysF0.n6 Try.prog sortRen where
  mixed := by kernel_rfl
  f6 := ⟨Try.f90.name, by decide, Try.func90.trans (congrArg some (by kernel_rfl))⟩
  f14 := ⟨Try.f97.name, by decide, Try.func97.trans (congrArg some (by kernel_rfl))⟩
  f15 := Try.func98.trans (congrArg some (by kernel_rfl))
  f20 := ⟨Try.f101.name, by decide, Try.func101.trans (congrArg some (by kernel_rfl))⟩
  f21 := ⟨Try.f102.name, by decide, Try.func102.trans (congrArg some (by kernel_rfl))⟩
  f22 := ⟨Try.f103.name, by decide, Try.func103.trans (congrArg some (by kernel_rfl))⟩
  f23 := ⟨Try.f104.name, by decide, Try.func104.trans (congrArg some (by kernel_rfl))⟩
  f24 := ⟨Try.f105.name, by decide, Try.func105.trans (congrArg some (by kernel_rfl))⟩
  f25 := ⟨Try.f106.name, by decide, Try.func106.trans (congrArg some (by kernel_rfl))⟩
  f26 := ⟨Try.f107.name, by decide, Try.func107.trans (congrArg some (by kernel_rfl))⟩
  f27 := ⟨Try.f108.name, by decide, Try.func108.trans (congrArg some (by kernel_rfl))⟩
  f28 := Try.func109.trans (congrArg some (by kernel_rfl))
  f29 := Try.func110.trans (congrArg some (by kernel_rfl))
  f46 := ⟨Try.f111.name, by decide, Try.func111.trans (congrArg some (by kernel_rfl))⟩
  f47 := Try.func112.trans (congrArg some (by kernel_rfl))
  f48 := Try.func113.trans (congrArg some (by kernel_rfl))
  f49 := ⟨Try.f114.name, by decide, Try.func114.trans (congrArg some (by kernel_rfl))⟩
  f50 := ⟨Try.f115.name, by decide, Try.func115.trans (congrArg some (by kernel_rfl))⟩
  f57 := ⟨Try.f116.name, by decide, Try.func116.trans (congrArg some (by kernel_rfl))⟩
  t0 := Try.underlying0
  a0 := Try.isAgg0
  z0 := Try.sizeOf0
  v0 := Try.zeroValue0
  t3 := Try.underlying3
  a3 := Try.isAgg3
  z3 := Try.sizeOf3
  v3 := Try.zeroValue3
  t4 := Try.underlying4
  a4 := Try.isAgg4
  z4 := Try.sizeOf4
  v4 := Try.zeroValue4
  t5 := Try.underlying5
  a5 := Try.isAgg5
  z5 := Try.sizeOf5
  v5 := Try.zeroValue5
  t9 := Try.underlying9
  a9 := Try.isAgg9
  z9 := Try.sizeOf9
  v9 := Try.zeroValue9
  t22 := Try.underlying23
  a22 := Try.isAgg23
  z22 := Try.sizeOf23
  v22 := Try.zeroValue23
  t25 := Try.underlying97
  a25 := Try.isAgg97
  z25 := Try.sizeOf97
  v25 := Try.zeroValue97
  t39 := Try.underlying124
  a39 := Try.isAgg124
  z39 := Try.sizeOf124
  v39 := Try.zeroValue124
  t45 := Try.underlying130
  a45 := Try.isAgg130
  z45 := Try.sizeOf130
  v45 := Try.zeroValue130
  t46 := Try.underlying131
  a46 := Try.isAgg131
  z46 := Try.sizeOf131
  v46 := Try.zeroValue131
  t50 := Try.underlying87
  a50 := Try.isAgg87
  z50 := Try.sizeOf87
  v50 := Try.zeroValue87
  t53 := Try.underlying137
  a53 := Try.isAgg137
  z53 := Try.sizeOf137
  v53 := Try.zeroValue137
  t55 := Try.underlying139
  a55 := Try.isAgg139
  z55 := Try.sizeOf139
  v55 := Try.zeroValue139
  t66 := Try.underlying140
  a66 := Try.isAgg140
  z66 := Try.sizeOf140
  v66 := Try.zeroValue140
  t70 := Try.underlying144
  a70 := Try.isAgg144
  z70 := Try.sizeOf144
  v70 := Try.zeroValue144
  t76 := Try.underlying146
  a76 := Try.isAgg146
  z76 := Try.sizeOf146
  v76 := Try.zeroValue146
  t77 := Try.underlying147
  a77 := Try.isAgg147
  z77 := Try.sizeOf147
  v77 := Try.zeroValue147
theorem info_edge : ∀ e i, Try.prog.underlying 23 = some (.slice e) → Try.prog.info? e = some i → i.size = 3 := by
  intro e i h1 h2
  have h3 : Try.prog.underlying 23 = some (.slice 74) := by kernel_rfl
  rw [h3] at h1
  simp only [Option.some.injEq, TypeDesc.slice.injEq] at h1
  subst h1
  have h4 : (Try.prog.info? 74).map (·.size) = some 3 := by kernel_rfl
  rw [h2] at h4
  simpa using h4
theorem sort_ok : IntrOk Try.prog 90 (.sort 23 true false) := sort_intr laysSort 3 Try.isAgg74 Try.sizeOf74 23 info_edge
theorem five {a : Array Value} (h : a.size = 5) : ∃ x0 x1 x2 x3 x4, a = #[x0, x1, x2, x3, x4] := by
  obtain ⟨l⟩ := a
  match l, h with
  | [x0, x1, x2, x3, x4], _ => exact ⟨_, _, _, _, _, rfl⟩
def Same (n : Nat) (w w' : World) : Prop := w'.os = w.os ∧ w'.tape = w.tape ∧ w'.output = w.output ∧ w.drawn ≤ w'.drawn ∧ w.heap.size ≤ w'.heap.size ∧ ∀ k, k < n → w'.heap[k]? = w.heap[k]?
theorem run_store_ok (P : Program) {w : World} {a : Addr} {v : Value} (hv : v.oneCell' = true) (hc : (w.cell? a).isSome = true) (hf : w.frozen? a = false) : (store a v).run P w = .ok () (w.setCell a v) := by
  rw [run_store P w a v _ hv]
  cases h : w.cell? a with
  | none => rw [h] at hc; cases hc
  | some u => simp [hf]
theorem cell_off {w : World} {b i j : Nat} {v : Value} (h : i ≠ j) : (w.setCell ⟨b, i, none⟩ v).cell? ⟨b, j, none⟩ = w.cell? ⟨b, j, none⟩ := World.cell?_setCell_other _ _ _ _ (fun e => h (by injection e))
theorem row5 {w : World} {b : Nat} {T : TypeId} {x0 x1 x2 x3 x4 y0 y1 y2 y3 y4 : Value} (h : w.heap[b]? = some (.cells #[y0, y1, y2, y3, y4] T (0, 0))) :
    (((((w.setCell ⟨b, 0, none⟩ x0).setCell ⟨b, 1, none⟩ x1).setCell ⟨b, 2, none⟩ x2).setCell ⟨b, 3, none⟩ x3).setCell ⟨b, 4, none⟩ x4).heap[b]? = some (.cells #[x0, x1, x2, x3, x4] T (0, 0)) := by
  simp [World.setCell, Array.getElem?_modify, h]
theorem results_cell2 {fn : Func} {p u : Tmp} {ty : TypeId} (h : fn.results = #[.cell p ty, .tmp u]) (tmps : Array Value) (w : World) (g : Nat) (t : TypeId) (cs : Array Value) (fr : Nat × Nat) (fs : Array Field)
    (hp : tmps.getD p undef = .pointer (some ⟨g, 0, none⟩)) (hg : w.heap[g]? = some (.cells cs t fr))
    (hu : Try.prog.underlying ty = some (.struct fs)) (hi : (Try.prog.info? ty).map (·.size) = some cs.size) :
    (results fn tmps).run Try.prog w = .ok (.tuple #[.agg cs, tmps.getD u undef]) w := by
  have hp' : tmps[p]?.getD undef = .pointer (some ⟨g, 0, none⟩) := by simpa using hp
  rw [results_cell_tmp h]
  simp [hp', asAddr, run_loadVar_row w g t ty cs fr (.struct fs) hg hu rfl hi]
theorem cells10 {w w' : World} {x0 x1 x2 x3 x4 y0 y1 y2 y3 y4 : Value} {T : TypeId} (hk : ∀ k, w.heap.size ≤ k → k < ((w.alloc (Obj.cells #[x0, x1, x2, x3, x4] T)).alloc (Obj.cells #[y0, y1, y2, y3, y4] T)).heap.size → w'.heap[k]? = ((w.alloc (Obj.cells #[x0, x1, x2, x3, x4] T)).alloc (Obj.cells #[y0, y1, y2, y3, y4] T)).heap[k]?)
    (hs : ((w.alloc (Obj.cells #[x0, x1, x2, x3, x4] T)).alloc (Obj.cells #[y0, y1, y2, y3, y4] T)).heap.size ≤ w'.heap.size) :
    w'.cell? ⟨w.heap.size, 0, none⟩ = some x0 ∧ w'.cell? ⟨w.heap.size, 1, none⟩ = some x1 ∧ w'.cell? ⟨w.heap.size, 2, none⟩ = some x2 ∧ w'.cell? ⟨w.heap.size, 3, none⟩ = some x3 ∧ w'.cell? ⟨w.heap.size, 4, none⟩ = some x4 ∧
    w'.cell? ⟨w.heap.size + 1, 0, none⟩ = some y0 ∧ w'.cell? ⟨w.heap.size + 1, 1, none⟩ = some y1 ∧ w'.cell? ⟨w.heap.size + 1, 2, none⟩ = some y2 ∧ w'.cell? ⟨w.heap.size + 1, 3, none⟩ = some y3 ∧ w'.cell? ⟨w.heap.size + 1, 4, none⟩ = some y4 ∧
    w'.frozen? ⟨w.heap.size + 1, 0, none⟩ = false ∧ w'.frozen? ⟨w.heap.size + 1, 1, none⟩ = false ∧ w'.frozen? ⟨w.heap.size + 1, 2, none⟩ = false ∧ w'.frozen? ⟨w.heap.size + 1, 3, none⟩ = false ∧ w'.frozen? ⟨w.heap.size + 1, 4, none⟩ = false ∧ w.heap.size + 2 ≤ w'.heap.size ∧ w'.heap[w.heap.size + 1]? = some (.cells #[y0, y1, y2, y3, y4] T (0, 0)) := by
  have h0 : w'.heap[w.heap.size]? = some (.cells #[x0, x1, x2, x3, x4] T (0, 0)) := by
    rw [hk _ (Nat.le_refl _) (by simp; omega)]
    show ((w.heap.push _).push _)[w.heap.size]? = _
    rw [getElem?_push_lt _ _ _ (by simp), Array.getElem?_push, if_pos rfl]
  have h1 : w'.heap[w.heap.size + 1]? = some (.cells #[y0, y1, y2, y3, y4] T (0, 0)) := by
    rw [hk _ (Nat.le_succ _) (by simp)]
    show ((w.heap.push _).push _)[w.heap.size + 1]? = _
    rw [Array.getElem?_push, if_pos (by simp)]
  have e0 := fun j => Lib.cell_of_heap h0 j
  have e1 := fun j => Lib.cell_of_heap h1 j
  have g1 := fun j => Lib.frozen_of_heap h1 j
  exact ⟨e0 0, e0 1, e0 2, e0 3, e0 4, e1 0, e1 1, e1 2, e1 3, e1 4, g1 0, g1 1, g1 2, g1 3, g1 4, by simpa using hs, h1⟩
set_option maxRecDepth 100000 in
set_option maxHeartbeats 2000000 in
theorem sorted_call (x0 x1 x2 x4 sl : Value) (hone : ∀ v ∈ [x0, x1, x2, sl, x4], v.oneCell' = true) (Q : World → Prop) (w : World)
    (h : ∀ w1, R.Grown w w1 → Calls Try.prog 90 #[sl, .func (.func 65) #[] #[]] w1 fun e w' => e = .returned (.tuple #[]) ∧ (∀ k, w.heap.size ≤ k → k < w1.heap.size → w'.heap[k]? = w1.heap[k]?) ∧ w1.heap.size ≤ w'.heap.size ∧ Q w') :
    Calls Try.prog 70 #[.agg #[x0, x1, x2, sl, x4]] w fun e w'' => e = .returned (.agg #[x0, x1, x2, sl, x4]) ∧ ∃ w', Q w' ∧ Same w.heap.size w' w'' := by
  have mixed : Try.prog.follows .mixedOrders = true := by kernel_rfl
  have e90 : ∀ args w, (callFunc 90 args).run Try.prog w = .ok (.enter 90 args) w := enters_of Try.func90 (by kernel_rfl) rfl
  go_enter Try.func70, Try.ntmps70
  have hg : R.Grown w ((w.alloc (Obj.cells #[x0, x1, x2, sl, x4] 25)).alloc (Obj.cells #[.int .i64 0, .int .i64 0, .slice none 0 0, .slice none 0 0, .slice none 0 0] 25)) := by
    refine ⟨rfl, rfl, rfl, Nat.le_refl _, by simp; omega, fun k hk => ?_⟩
    show ((w.heap.push _).push _)[k]? = w.heap[k]?
    rw [getElem?_push_lt _ _ _ (by simp; omega), getElem?_push_lt _ _ _ hk]
  have hc := h _ hg
  clear h
  go_wp2_with (go_at_fn 90; refine hc.mono ?_; rintro e w' ⟨rfl, hk, hs, hq⟩; obtain ⟨c0, c1, c2, c3, c4, d0, d1, d2, d3, d4, f0, f1, f2, f3, f4, hsz, hB⟩ := cells10 hk hs)
  have g0 := hone x0 (by simp)
  have g1 := hone x1 (by simp)
  have g2 := hone x2 (by simp)
  have g3 := hone sl (by simp)
  have g4 := hone x4 (by simp)
  rw [run_store_ok Try.prog g0 (by rw [d0]; rfl) f0, Result.andThen_ok, run_store_ok Try.prog g1 (by rw [cell_off (by decide), d1]; rfl) (by rw [World.frozen?_setCell]; exact f1), Result.andThen_ok,
    run_store_ok Try.prog g2 (by rw [cell_off (by decide), cell_off (by decide), d2]; rfl) (by rw [World.frozen?_setCell, World.frozen?_setCell]; exact f2), Result.andThen_ok,
    run_store_ok Try.prog g3 (by rw [cell_off (by decide), cell_off (by decide), cell_off (by decide), d3]; rfl) (by rw [World.frozen?_setCell, World.frozen?_setCell, World.frozen?_setCell]; exact f3), Result.andThen_ok,
    run_store_ok Try.prog g4 (by rw [cell_off (by decide), cell_off (by decide), cell_off (by decide), cell_off (by decide), d4]; rfl) (by rw [World.frozen?_setCell, World.frozen?_setCell, World.frozen?_setCell, World.frozen?_setCell]; exact f4), Result.andThen_ok]
  have hW := row5 (x0 := x0) (x1 := x1) (x2 := x2) (x3 := sl) (x4 := x4) hB
  have hsame : Same w.heap.size w' (((((w'.setCell ⟨w.heap.size + 1, 0, none⟩ x0).setCell ⟨w.heap.size + 1, 1, none⟩ x1).setCell ⟨w.heap.size + 1, 2, none⟩ x2).setCell ⟨w.heap.size + 1, 3, none⟩ sl).setCell ⟨w.heap.size + 1, 4, none⟩ x4) := by
    refine ⟨rfl, rfl, rfl, Nat.le_refl _, by simp, fun k hk => ?_⟩
    simp only [World.setCell, Array.getElem?_modify]
    rw [if_neg (by omega), if_neg (by omega), if_neg (by omega), if_neg (by omega), if_neg (by omega)]
  generalize (((((w'.setCell ⟨w.heap.size + 1, 0, none⟩ x0).setCell ⟨w.heap.size + 1, 1, none⟩ x1).setCell ⟨w.heap.size + 1, 2, none⟩ x2).setCell ⟨w.heap.size + 1, 3, none⟩ sl).setCell ⟨w.heap.size + 1, 4, none⟩ x4) = W at *
  go_wp2
  (try simp only [Exit.inBlock, Exit.then]); refine bodyPost_ret (results_cell_row rfl _ _ _ _ _ _ _ rfl hW Try.underlying25 rfl (by kernel_rfl)) rfl ?_
  exact ⟨rfl, w', hq, hsame⟩
theorem grown_same {w w' w'' : World} (h : R.Grown w w') (h' : Same w.heap.size w' w'') : R.Grown w w'' := by
  obtain ⟨a1, a2, a3, a4, a5, a6⟩ := h
  obtain ⟨b1, b2, b3, b4, b5, b6⟩ := h'
  exact ⟨b1.trans a1, b2.trans a2, b3.trans a3, Nat.le_trans a4 b4, Nat.le_trans a5 b5, fun k hk => (b6 k hk).trans (a6 k hk)⟩
theorem sorted_same {w w' w'' : World} {b : Nat} {te : TypeId} {arr : Array Value} (hb : b < w.heap.size) (h : SortedW w b te arr w') (h' : Same w.heap.size w' w'') : SortedW w b te arr w'' := by
  obtain ⟨a1, a2, a3, a4, a5, a6, a7⟩ := h
  obtain ⟨b1, b2, b3, b4, b5, b6⟩ := h'
  exact ⟨b1.trans a1, b2.trans a2, b3.trans a3, Nat.le_trans a4 b4, Nat.le_trans a5 b5, (b6 b hb).trans a6, fun k hk hkb => (b6 k hk).trans (a7 k hk hkb)⟩
theorem grown_sorted {w w1 W : World} {b : Nat} {te : TypeId} {arr : Array Value} (h : R.Grown w w1) (h' : SortedW w1 b te arr W) : SortedW w b te arr W := by
  obtain ⟨a1, a2, a3, a4, a5, a6⟩ := h
  obtain ⟨b1, b2, b3, b4, b5, b6, b7⟩ := h'
  exact ⟨b1.trans a1, b2.trans a2, b3.trans a3, Nat.le_trans a4 b4, Nat.le_trans a5 b5, b6, fun k hk hkb => (b7 k (Nat.lt_of_lt_of_le hk a5) hkb).trans (a6 k hk)⟩
theorem grown_trans {w w1 W : World} (h : R.Grown w w1) (h' : R.Grown w1 W) : R.Grown w W := by
  obtain ⟨a1, a2, a3, a4, a5, a6⟩ := h
  obtain ⟨b1, b2, b3, b4, b5, b6⟩ := h'
  exact ⟨b1.trans a1, b2.trans a2, b3.trans a3, Nat.le_trans a4 b4, Nat.le_trans a5 b5, fun k hk => (b6 k (Nat.lt_of_lt_of_le hk a5)).trans (a6 k hk)⟩
/-- a function that hands a slice on to one that sorts it -/
theorem sortAs_via {T : TypeId} {ag st : Bool} {sl : Value} {g : FuncId} {cb : Array Value} {f f' : FuncId} {args args' : Array Value} {res res' : Value} (h : SortAs Try.prog T ag st sl g cb f args res)
    (hv : ∀ (Q : World → Prop) (w : World), (∀ w1, R.Grown w w1 → Calls Try.prog f args w1 fun e w' => e = .returned res ∧ (∀ k, w.heap.size ≤ k → k < w1.heap.size → w'.heap[k]? = w1.heap[k]?) ∧ w1.heap.size ≤ w'.heap.size ∧ Q w') →
      Calls Try.prog f' args' w fun e w'' => e = .returned res' ∧ ∃ w', Q w' ∧ Same w.heap.size w' w'') : SortAs Try.prog T ag st sl g cb f' args' res' := by
  refine ⟨?_, ?_⟩
  · intro A cap hsl w
    refine (hv (fun w' => R.Grown w w') w ?_).mono ?_
    · intro w1 h1
      refine (h.1 A cap hsl w1).mono ?_
      rintro e w' ⟨rfl, h2⟩
      exact ⟨rfl, fun k _ hk => h2.2.2.2.2.2 k hk, h2.2.2.2.2.1, grown_trans h1 h2⟩
    · rintro e w'' ⟨rfl, w', h1, h2⟩
      exact ⟨rfl, grown_same h1 h2⟩
  · intro e i hu hi α _ enc cf b cap pre rest d w te hsl hk h1 hby eg hw hd hcmp
    have hb : b < w.heap.size := (Array.getElem?_eq_some_iff.1 hw).1
    refine (hv (fun w' => ∃ d', SortRes st cf d d' ∧ SortedW w b te (pre ++ (d'.flatMap enc ++ rest)).toArray w') w ?_).mono ?_
    · intro w1 g1
      refine (h.2 e i hu hi α enc cf b cap pre rest d w1 te hsl hk h1 hby eg (by rw [g1.2.2.2.2.2 b hb]; exact hw) hd (fun dk W hdk hW x y => hcmp dk W hdk (grown_sorted g1 hW) x y)).mono ?_
      rintro ee w' ⟨rfl, d', h2, h3⟩
      exact ⟨rfl, fun k hk1 hk2 => h3.2.2.2.2.2.2 k hk2 (by omega), h3.2.2.2.2.1, d', h2, grown_sorted g1 h3⟩
    · rintro ee w'' ⟨rfl, w', ⟨d', h2, h3⟩, h4⟩
      exact ⟨rfl, d', h2, sorted_same hb h3 h4⟩
theorem size25 {i : TypeInfo} (h : Try.prog.info? 25 = some i) : i.size = 5 := by
  have h4 : (Try.prog.info? 25).map (·.size) = some 5 := by kernel_rfl
  rw [h] at h4
  simpa using h4
theorem sorted_ok : IntrOk Try.prog 70 (.sortF 25 23 3 65) := by
  intro arr sl i hi hsz hone hj
  obtain ⟨x0, x1, x2, x3, x4, rfl⟩ := five (hsz.trans (size25 hi))
  simp only [List.size_toArray, List.getElem?_toArray, List.getElem?_cons_succ, List.getElem?_cons_zero, Option.some.injEq] at hj
  subst hj
  exact sortAs_via (sort_ok x3 65 #[]) fun Q w h => sorted_call x0 x1 x2 x4 x3 hone Q w h
set_option maxRecDepth 100000 in
set_option maxHeartbeats 4000000 in
theorem small_call (x0 x2 x4 : Value) (n : Int) (A : Option Addr) (len cap : Nat) (hone : ∀ v ∈ [x0, .int .i64 n, x2, .slice A len cap, x4], v.oneCell' = true) (hn : ¬ n > 400) (hl : ¬ (len : Int) > 4000) (Q : World → Prop) (w : World)
    (h : ∀ w1, R.Grown w w1 → Calls Try.prog 70 #[.agg #[x0, .int .i64 n, x2, .slice A len cap, x4]] w1 fun e w' => e = .returned (.agg #[x0, .int .i64 n, x2, .slice A len cap, x4]) ∧ (∀ k, w.heap.size ≤ k → k < w1.heap.size → w'.heap[k]? = w1.heap[k]?) ∧ w1.heap.size ≤ w'.heap.size ∧ Q w') :
    Calls Try.prog 73 #[.agg #[x0, .int .i64 n, x2, .slice A len cap, x4]] w fun e w'' => e = .returned (.tuple #[.agg #[x0, .int .i64 n, x2, .slice A len cap, x4], .int .i64 0]) ∧ ∃ w', Q w' ∧ Same w.heap.size w' w'' := by
  have mixed : Try.prog.follows .mixedOrders = true := by kernel_rfl
  have e70 : ∀ args w, (callFunc 70 args).run Try.prog w = .ok (.enter 70 args) w := enters_of Try.func70 (by kernel_rfl) rfl
  have hg : R.Grown w ((w.alloc (Obj.cells #[x0, .int .i64 n, x2, .slice A len cap, x4] 25)).alloc (Obj.cells #[.int .i64 0, .int .i64 0, .slice none 0 0, .slice none 0 0, .slice none 0 0] 25)) := by
    refine ⟨rfl, rfl, rfl, Nat.le_refl _, by simp; omega, fun k hk => ?_⟩
    show ((w.heap.push _).push _)[k]? = w.heap[k]?
    rw [getElem?_push_lt _ _ _ (by simp; omega), getElem?_push_lt _ _ _ hk]
  have hc := h _ hg
  clear h
  have hn' : ¬ (400 : Int) < n := hn
  have hl' : ¬ (4000 : Int) < (len : Int) := hl
  go_enter Try.func73, Try.ntmps73
  go_wp2_with (go_at_fn 70; refine hc.mono ?_; rintro e w' ⟨rfl, hk, hs, hq⟩; obtain ⟨c0, c1, c2, c3, c4, d0, d1, d2, d3, d4, f0, f1, f2, f3, f4, hsz, hB⟩ := cells10 hk hs)
  have g0 := hone x0 (by simp)
  have g2 := hone x2 (by simp)
  have g4 := hone x4 (by simp)
  rw [run_store_ok Try.prog g0 (by rw [d0]; rfl) f0, Result.andThen_ok]
  simp only [cell_off (show (0 : Nat) ≠ 1 by decide), d1, World.frozen?_setCell, f1, Bool.false_eq_true, if_false, Result.andThen_ok]
  rw [run_store_ok Try.prog g2 (by rw [cell_off (by decide), cell_off (by decide), d2]; rfl) (by rw [World.frozen?_setCell, World.frozen?_setCell]; exact f2), Result.andThen_ok]
  simp only [cell_off (show (0 : Nat) ≠ 3 by decide), cell_off (show (1 : Nat) ≠ 3 by decide), cell_off (show (2 : Nat) ≠ 3 by decide), d3, World.frozen?_setCell, f3, Bool.false_eq_true, if_false, Result.andThen_ok]
  rw [run_store_ok Try.prog g4 (by rw [cell_off (by decide), cell_off (by decide), cell_off (by decide), cell_off (by decide), d4]; rfl) (by rw [World.frozen?_setCell, World.frozen?_setCell, World.frozen?_setCell, World.frozen?_setCell]; exact f4), Result.andThen_ok]
  have hW := row5 (x0 := x0) (x1 := .int .i64 n) (x2 := x2) (x3 := .slice A len cap) (x4 := x4) hB
  have hsame : Same w.heap.size w' (((((w'.setCell ⟨w.heap.size + 1, 0, none⟩ x0).setCell ⟨w.heap.size + 1, 1, none⟩ (.int .i64 n)).setCell ⟨w.heap.size + 1, 2, none⟩ x2).setCell ⟨w.heap.size + 1, 3, none⟩ (.slice A len cap)).setCell ⟨w.heap.size + 1, 4, none⟩ x4) := by
    refine ⟨rfl, rfl, rfl, Nat.le_refl _, by simp, fun k hk => ?_⟩
    simp only [World.setCell, Array.getElem?_modify]
    rw [if_neg (by omega), if_neg (by omega), if_neg (by omega), if_neg (by omega), if_neg (by omega)]
  generalize (((((w'.setCell ⟨w.heap.size + 1, 0, none⟩ x0).setCell ⟨w.heap.size + 1, 1, none⟩ (.int .i64 n)).setCell ⟨w.heap.size + 1, 2, none⟩ x2).setCell ⟨w.heap.size + 1, 3, none⟩ (.slice A len cap)).setCell ⟨w.heap.size + 1, 4, none⟩ x4) = W at *
  go_wp2
  (try simp only [Exit.inBlock, Exit.then]); refine bodyPost_ret (results_cell2 rfl _ _ _ _ _ _ _ rfl hW Try.underlying25 (by kernel_rfl)) rfl ?_
  exact ⟨rfl, w', hq, hsame⟩
set_option maxRecDepth 100000 in
set_option maxHeartbeats 4000000 in
theorem small_big (x0 x2 x4 : Value) (n : Int) (A : Option Addr) (len cap : Nat) (hone : ∀ v ∈ [x0, .int .i64 n, x2, .slice A len cap, x4], v.oneCell' = true) (hh : n > 400 ∨ (len : Int) > 4000) (w : World) :
    Calls Try.prog 73 #[.agg #[x0, .int .i64 n, x2, .slice A len cap, x4]] w fun e w'' => e = .returned (.tuple #[.agg #[.int .i64 0, .int .i64 0, .slice none 0 0, .slice none 0 0, .slice none 0 0], .int .i64 3]) ∧ R.Grown w w'' := by
  have mixed : Try.prog.follows .mixedOrders = true := by kernel_rfl
  have hB : ((w.alloc (Obj.cells #[x0, .int .i64 n, x2, .slice A len cap, x4] 25)).alloc (Obj.cells #[.int .i64 0, .int .i64 0, .slice none 0 0, .slice none 0 0, .slice none 0 0] 25)).heap[w.heap.size + 1]? = some (.cells #[.int .i64 0, .int .i64 0, .slice none 0 0, .slice none 0 0, .slice none 0 0] 25 (0, 0)) := by
    show ((w.heap.push _).push _)[w.heap.size + 1]? = _
    rw [Array.getElem?_push, if_pos (by simp)]
  by_cases hn : n > 400
  · have hn' : (400 : Int) < n := hn
    go_enter Try.func73, Try.ntmps73
    go_wp2
    (try simp only [Exit.inBlock, Exit.then]); refine bodyPost_ret (results_cell2 rfl _ _ _ _ _ _ _ rfl hB Try.underlying25 (by kernel_rfl)) rfl ?_
    refine ⟨rfl, rfl, rfl, rfl, Nat.le_refl _, by simp; omega, fun k hk => ?_⟩
    show ((w.heap.push _).push _)[k]? = w.heap[k]?
    rw [getElem?_push_lt _ _ _ (by simp; omega), getElem?_push_lt _ _ _ hk]
  · have hn' : ¬ (400 : Int) < n := hn
    have hl' : (4000 : Int) < (len : Int) := hh.resolve_left hn
    go_enter Try.func73, Try.ntmps73
    go_wp2
    (try simp only [Exit.inBlock, Exit.then]); refine bodyPost_ret (results_cell2 rfl _ _ _ _ _ _ _ rfl hB Try.underlying25 (by kernel_rfl)) rfl ?_
    refine ⟨rfl, rfl, rfl, rfl, Nat.le_refl _, by simp; omega, fun k hk => ?_⟩
    show ((w.heap.push _).push _)[k]? = w.heap[k]?
    rw [getElem?_push_lt _ _ _ (by simp; omega), getElem?_push_lt _ _ _ hk]
theorem small_ok : IntrOk Try.prog 73 (.sortS 25 23 1 3 65 400 4000 3) := by
  intro arr sl ui n z A len cap hi hz hsz hone hi1 hj hsl
  obtain ⟨x0, x1, x2, x3, x4, rfl⟩ := five (hsz.trans (size25 hi))
  simp only [List.size_toArray, List.getElem?_toArray, List.getElem?_cons_succ, List.getElem?_cons_zero, Option.some.injEq] at hj hi1
  subst hi1; subst hj; subst hsl
  have hz' : z.cells = #[.int .i64 0, .int .i64 0, .slice none 0 0, .slice none 0 0, .slice none 0 0] := by
    have h4 : ((Try.prog.info? 25).bind (·.zero)).map (·.cells) = some #[.int .i64 0, .int .i64 0, .slice none 0 0, .slice none 0 0, .slice none 0 0] := by kernel_rfl
    rw [hi] at h4
    simp only [Option.bind_some, hz, Option.map_some, Option.some.injEq] at h4
    exact h4
  refine ⟨fun hh w => ?_, fun hn hl => ?_⟩
  · rw [hz']
    exact small_big x0 x2 x4 n A len cap hone hh w
  · exact sortAs_via (sorted_ok _ _ ui hi hsz hone rfl) fun Q w h => small_call x0 x2 x4 n A len cap hone hn hl Q w h
def revRen : Ren := ⟨fun | 35 => 33 | n => n, fun | 22 => 22 | 23 => 3 | n => n, fun n => n⟩
theorem laysRev : SlLaysE.n35 Try.prog revRen := {
  mixed := by kernel_rfl
  f35 := ⟨Try.f33.name, by decide, Try.func33.trans (congrArg some (by kernel_rfl))⟩
  t0 := Try.underlying0
  a0 := Try.isAgg0
  z0 := Try.sizeOf0
  v0 := Try.zeroValue0
  t3 := Try.underlying3
  a3 := Try.isAgg3
  z3 := Try.sizeOf3
  v3 := Try.zeroValue3
  t4 := Try.underlying4
  a4 := Try.isAgg4
  z4 := Try.sizeOf4
  v4 := Try.zeroValue4
  t22 := Try.underlying22
  a22 := Try.isAgg22
  z22 := Try.sizeOf22
  v22 := Try.zeroValue22
  a23 := Try.isAgg3
  z23 := Try.sizeOf3 }

theorem rev_ok : IntrOk Try.prog 33 (.rev 22) := rev_intr laysRev 22

theorem intr_ok : ∀ f k, ctx.intr f = some k → (∀ args w, (callFunc f args).run Try.prog w = .ok (.enter f args) w) ∧ IntrOk Try.prog f k := by
  intro f k h
  have hm : (f, k) ∈ intrTab := lkpI_mem h
  simp only [intrTab, List.mem_cons, List.not_mem_nil, or_false, Prod.mk.injEq] at hm
  rcases hm with ⟨rfl, rfl⟩ | ⟨rfl, rfl⟩ | ⟨rfl, rfl⟩ | ⟨rfl, rfl⟩ | ⟨rfl, rfl⟩
  · exact ⟨enters_of Try.func33 (by kernel_rfl) rfl, rev_ok⟩
  · exact ⟨enters_of Try.func70 (by kernel_rfl) rfl, sorted_ok⟩
  · exact ⟨enters_of Try.func73 (by kernel_rfl) rfl, small_ok⟩
  · exact ⟨enters_of Try.func79 (by kernel_rfl) rfl, byte_ok⟩
  · exact ⟨enters_of Try.func80 (by kernel_rfl) rfl, str_ok⟩
end Go.Proofs.C07
