/- What the methods of strings.Builder do with a builder. No condition but the builder's own form. -/
import Derived.Test.YtpkckffbdojegaaProg
import Derived.Test.YtpkckffbdojegaaK27
import Derived.Test.YtpkckffbdojegaaMachine4
import Derived.WalkKit
import Derived.Shelf.Strings.Builder1
import Derived.Laws.CopyRow
set_option linter.unusedVariables false
set_option linter.unusedSimpArgs false
namespace Go.Proofs.K27
open Go Go.Proofs.R
open Go.Shelf Go.RowKit
set_option linter.unusedVariables false

theorem infoB : ∃ j, Try.prog.info? 112 = some j ∧ j.size = 2 := by
  have h : (Try.prog.info? 112).map (·.size) = some 2 := by kernel_rfl
  obtain ⟨j, hj, hs⟩ := Option.map_eq_some_iff.1 h
  exact ⟨j, hj, hs⟩
theorem liesB : liesAt Try.prog Try.prog.depth 112 (2 / Try.prog.cellsOf 112) 0 112 1 = true := by kernel_rfl
set_option maxRecDepth 100000 in
set_option maxHeartbeats 2000000 in
theorem cc_used (b : Nat) (w : World) (h0 : w.cell? ⟨b, 0, none⟩ = some (.pointer (some ⟨b, 0, none⟩))) :
    Calls Try.prog 92 #[.pointer (some ⟨b, 0, none⟩)] w fun e w' => e = .returned (.tuple #[]) ∧ w' = w := by
  obtain ⟨j, hj, _⟩ := infoB
  have mixed : Try.prog.follows .mixedOrders = true := by kernel_rfl
  go_enter Try.func92, Try.ntmps92
  go_wp2
  rw [Lib.run_neq_ptr_same w _ Try.underlying110 hj]
  go_wp2
  go_end0
  exact ⟨rfl, rfl⟩
set_option maxRecDepth 100000 in
set_option maxHeartbeats 2000000 in
theorem cc_fresh (b : Nat) (w : World) (h0 : w.cell? ⟨b, 0, none⟩ = some (.pointer none)) (hsh : w.shape? b = some (112, 2)) (hfz : w.frozen? ⟨b, 0, none⟩ = false) :
    Calls Try.prog 92 #[.pointer (some ⟨b, 0, none⟩)] w fun e w' => e = .returned (.tuple #[]) ∧ w' = w.setCell ⟨b, 0, none⟩ (.pointer (some ⟨b, 0, none⟩)) := by
  obtain ⟨j, hj, hjs⟩ := infoB
  have mixed : Try.prog.follows .mixedOrders = true := by kernel_rfl
  go_enter Try.func92, Try.ntmps92
  go_wp2
  rw [Lib.run_to_unsafe w ⟨b, 0, none⟩ Try.underlying110 Try.underlying159 hj (by rw [hjs]; decide) hsh (Nat.zero_lt_succ 1)]
  simp only [Result.andThen]
  rw [Oper.upon_value]
  go_wp2
  rw [run_callFunc_extern Try.func115 (by kernel_rfl) (by kernel_rfl) (by kernel_rfl) (e := Extern.AbiNoEscape.same) (by kernel_rfl)]
  rw [Lib.run_noEscape]
  simp only [Result.andThen]
  rw [Oper.upon_value]
  go_wp2
  rw [Lib.run_from_unsafe w ⟨b, 0, none⟩ Try.underlying159 Try.underlying110 hj hsh liesB]
  simp only [Result.andThen]
  rw [Oper.upon_value]
  go_wp2
  go_end0
  exact ⟨rfl, rfl⟩
theorem wpList_run {P : Program} {ops : Array Oper} {rest : List Oper} {o : Oper} {a : Act} {Q : Exit → Act → World → Prop} {w w' : World} {v : Value} (hgd : o.guard = none)
    (h : (execOp a.eval o).run P w = .ok (.value v) w') (hn : wpList P ops Q rest (a.put o.dst v) w') : wpList P ops Q (o :: rest) a w := by
  refine wpList_plain hgd fun K hK => ?_
  unfold Oper.wp; rw [h]
  exact hK _ _ hn
theorem modify_congr {α : Type} (xs : Array α) (i : Nat) (f g : α → α) {x : α} (h : xs[i]? = some x) (hf : f x = g x) : xs.modify i f = xs.modify i g := by
  apply Array.ext
  · simp
  · intro j h1 h2
    simp only [Array.getElem_modify]
    by_cases hj : i = j
    · subst hj
      have : xs[i]'(by simpa using h1) = x := by
        have := (Array.getElem?_eq_some_iff.1 h).2; exact this
      simp [this, hf]
    · simp [hj]
theorem setCell_row {w : World} {b : Nat} {pa v : Value} {T : TypeId} {fz : Nat × Nat} (h : w.heap[b]? = some (.cells #[pa, v] T fz)) (x : Value) : w.setCell ⟨b, 0, none⟩ x = w.setRow b #[x, v] := by
  unfold World.setCell World.setRow
  congr 1
  exact modify_congr _ _ _ _ h rfl
theorem setCell_row1 {w : World} {b : Nat} {pa v : Value} {T : TypeId} {fz : Nat × Nat} (h : w.heap[b]? = some (.cells #[pa, v] T fz)) (x : Value) : w.setCell ⟨b, 1, none⟩ x = w.setRow b #[pa, x] := by
  unfold World.setCell World.setRow
  congr 1
  exact modify_congr _ _ _ _ h rfl
theorem cc (b : Nat) (w : World) {pa v : Value} (h : w.heap[b]? = some (.cells #[pa, v] 112 (0, 0))) (hp : pa = .pointer none ∨ pa = .pointer (some ⟨b, 0, none⟩)) :
    Calls Try.prog 92 #[.pointer (some ⟨b, 0, none⟩)] w fun e w' => e = .returned (.tuple #[]) ∧ w' = w.setRow b #[.pointer (some ⟨b, 0, none⟩), v] := by
  have h0 : w.cell? ⟨b, 0, none⟩ = some pa := by rw [Lib.cell_of_heap h]; rfl
  rcases hp with rfl | rfl
  · have := cc_fresh b w h0 (by simp [World.shape?, h]) (Lib.frozen_of_heap h 0)
    rw [setCell_row h] at this; exact this
  · have := cc_used b w h0
    rw [setRow_self w b _ 112 (0, 0) h]; exact this
set_option maxRecDepth 100000 in
set_option maxHeartbeats 2000000 in
theorem write_ok : IntrOk Try.prog 59 (.bwrite 112 23 9) := by
  rintro w w2 b pa v v' u s h hp hrun ⟨A, n, m, rfl⟩ hb2
  have e92 : ∀ args w, (callFunc 92 args).run Try.prog w = .ok (.enter 92 args) w := enters_of Try.func92 (by kernel_rfl) rfl
  have mixed : Try.prog.follows .mixedOrders = true := by kernel_rfl
  have hb1 : (w.setRow b #[.pointer (some ⟨b, 0, none⟩), v]).heap[b]? = some (.cells #[.pointer (some ⟨b, 0, none⟩), v] 112 (0, 0)) := setRow_heap w b _ _ 112 (0, 0) h
  have c1 : (w.setRow b #[.pointer (some ⟨b, 0, none⟩), v]).cell? ⟨b, 1, none⟩ = some v := by rw [Lib.cell_of_heap hb1]; rfl
  have d1 : w2.cell? ⟨b, 1, none⟩ = some u := by rw [Lib.cell_of_heap hb2]; rfl
  have f1 : w2.frozen? ⟨b, 1, none⟩ = false := Lib.frozen_of_heap hb2 1
  go_enter Try.func59, Try.ntmps59
  go_wp2_with (go_at_fn 92; refine (cc b _ h hp).mono ?_)
  rintro e w1 ⟨rfl, rfl⟩
  go_wp2_with (at_builtin; refine wpList_run rfl (v := .slice A n m) (w' := w2) ?run ?_)
  case run =>
    simp [execOp, resolve, invoke, builtin, Act.eval, hrun]
  go_wp2
  go_ret2
  exact ⟨rfl, setCell_row1 hb2 _⟩
theorem lies_at {P : Program} {e : TypeId} (hc : P.cellsOf e = 1) (count o n : Nat) (hn : o + n ≤ count) (h0 : 0 < n) : liesAt P P.depth e count o e n = true := by
  have hd : P.depth = (2 * (P.types.size + Made.depth) + 1) + 1 := rfl
  rw [hd]
  simp only [liesAt, Bool.or_eq_true]
  left
  rw [hd]
  simp [rowAt, hc, sameLayout]
  omega
theorem unsafeString_at {P : Program} {w : World} (pt it ty e : TypeId) (hp : P.underlying pt = some (.pointer e)) (hc : P.cellsOf e = 1) (g o cells : Nat) (hsh : w.shape? g = some (e, cells)) (l : List UInt8) (h0 : l ≠ []) (hn : o + l.length ≤ cells) (h63 : l.length ≤ 4294967296)
    (hcell : ∀ j x, l[j]? = some x → w.cell? ((⟨g, o, none⟩ : Addr).add j) = some (.int .u8 x.toNat)) :
    (Builtin.unsafeString_ #[pt, it] ty #[.pointer (some ⟨g, o, none⟩), .int .i64 l.length]).run P w = .ok (.string ⟨l.toArray⟩) (w.freeze ⟨g, o, none⟩ l.length) := by
  have hl : l.length ≠ 0 := by simpa using h0
  have hlb := Lib.run_loadBytes (P := P) (w := w) l ⟨g, o, none⟩ .empty hcell
  have hlies := lies_at (P := P) hc (cells / P.cellsOf e) o l.length (by rw [hc]; simpa using hn) (by omega)
  have h63' : ¬ (9223372036854775807 : Int) < (l.length : Int) := by omega
  have hmax : IntKind.i64.max = 9223372036854775807 := rfl
  have hneg : ¬ (l.length : Int) < 0 := by omega
  have key : ∀ (p : Option Addr) (v : Value) (f : Option Addr → Value → Sem Value) (k : Array Value → Sem Value), Builtin.unsafeString_.match_3 (fun _ => Sem Value) #[.pointer p, v] f k = f p v := fun _ _ _ _ => rfl
  delta Builtin.unsafeString_
  rw [key]
  simp [asInt, asIntOf, hmax, h63', hneg, hl, variablesAt, hsh, elemOf, run_underlying hp, hlies, hlb]

set_option maxRecDepth 100000 in
set_option maxHeartbeats 2000000 in
theorem str_gen (b : Nat) (w w2 : World) (pa : Value) (A q : Option Addr) (n cap : Nat) (st : ByteArray) (h : w.heap[b]? = some (.cells #[pa, .slice A n cap] 112 (0, 0)))
    (hSD : (Builtin.unsafeSliceData_ #[23] 137 #[.slice A n cap]).run Try.prog w.drew = .ok (.pointer q) w2) (h2 : w2.heap[b]? = some (.cells #[pa, .slice A n cap] 112 (0, 0))) {w3 : World} (hUS : (Builtin.unsafeString_ #[137, 3] 9 #[.pointer q, .int .i64 n]).run Try.prog w2 = .ok (.string st) w3) :
    Calls Try.prog 60 #[.pointer (some ⟨b, 0, none⟩)] w fun e w' => e = .returned (.string st) ∧ w' = w3 := by
  have c1 : w.drew.cell? ⟨b, 1, none⟩ = some (.slice A n cap) := by
    have : w.drew.heap[b]? = some (.cells #[pa, .slice A n cap] 112 (0, 0)) := h
    rw [Lib.cell_of_heap this]; rfl
  have c2 : w2.cell? ⟨b, 1, none⟩ = some (.slice A n cap) := by rw [Lib.cell_of_heap h2]; rfl
  have mixed : Try.prog.follows .mixedOrders = true := by kernel_rfl
  go_enter Try.func60, Try.ntmps60
  go_wp2
  go_region_o
  all_goals (go_wp2; go_ret; exact ⟨rfl, rfl⟩)
theorem freeze_keep (w : World) (a : Addr) (n : Nat) : (w.freeze a n).os = w.os ∧ (w.freeze a n).tape = w.tape ∧ (w.freeze a n).output = w.output ∧ (w.freeze a n).drawn = w.drawn ∧ (w.freeze a n).heap.size = w.heap.size ∧ ∀ k, k ≠ a.block → (w.freeze a n).heap[k]? = w.heap[k]? := by
  unfold World.freeze
  by_cases hn : n = 0
  · rw [if_pos hn]; exact ⟨rfl, rfl, rfl, rfl, rfl, fun _ _ => rfl⟩
  · rw [if_neg hn]; exact ⟨rfl, rfl, rfl, rfl, by simp, fun k hk => by simp [Array.getElem?_modify, Ne.symm hk]⟩
theorem str_ok : IntrOk Try.prog 60 (.bstr 112 5) := by
  rintro w b pa v l hlen h (⟨rfl, rfl⟩ | ⟨g, o, cap, arr, rest, hgb, rfl, hg, hl, hd, hsz⟩)
  · refine (str_gen b w w.drew pa none none 0 0 ⟨#[]⟩ h rfl h (Lib.run_unsafeString_none _ _ _ _ _)).mono ?_
    rintro e w' ⟨rfl, rfl⟩
    exact ⟨rfl, rfl, rfl, rfl, Nat.le_succ _, Nat.le_refl _, fun _ _ _ => rfl⟩
  · by_cases h0 : l = []
    · subst h0
      by_cases hc : cap = 0
      · subst hc
        have hsh : w.drew.shape? g = some (5, arr.size) := by
          have hg' : w.drew.heap[g]? = some (.cells arr 5 (0, 0)) := hg
          simp [World.shape?, hg']
        have hb : b < w.heap.size := (Array.getElem?_eq_some_iff.1 h).1
        refine (str_gen b w (w.drew.alloc (.view ⟨g, o, none⟩ 5)) pa _ _ 0 0 ⟨#[]⟩ h (Lib.run_unsafeSliceData_zero _ _ _ _ Try.underlying137 _ _ _ hsh) (by
          exact (getElem?_push_lt _ _ _ hb).trans h) (Lib.run_unsafeString_none _ _ _ _ _)).mono ?_
        rintro e w' ⟨rfl, rfl⟩
        exact ⟨rfl, rfl, rfl, rfl, Nat.le_succ _, (by show w.heap.size ≤ (w.heap.push _).size; simp), fun k hk _ => getElem?_push_lt _ _ _ hk⟩
      · refine (str_gen b w w.drew pa _ _ 0 cap ⟨#[]⟩ h (Lib.run_unsafeSliceData_row _ _ _ _ _ _ hc) h (Lib.run_unsafeString_none _ _ _ _ _)).mono ?_
        rintro e w' ⟨rfl, rfl⟩
        exact ⟨rfl, rfl, rfl, rfl, Nat.le_succ _, Nat.le_refl _, fun _ _ _ => rfl⟩
    · have hl0 : l.length ≠ 0 := by simpa using h0
      have hsh : w.drew.shape? g = some (5, arr.size) := by
        have hg' : w.drew.heap[g]? = some (.cells arr 5 (0, 0)) := hg
        simp [World.shape?, hg']
      refine (str_gen b w w.drew pa _ _ l.length cap ⟨l.toArray⟩ h (Lib.run_unsafeSliceData_row _ _ _ _ _ _ (by omega)) h (unsafeString_at 137 3 9 5 Try.underlying137 (by kernel_rfl) g o arr.size hsh l h0 (by omega) hlen ?_)).mono ?_
      · intro j x hj
        have h1 : (arr.toList.drop o)[j]? = some (.int .u8 x.toNat) := by
          rw [hd, List.getElem?_append_left (by simpa using (List.getElem?_eq_some_iff.1 hj).1), List.getElem?_map, hj]; rfl
        rw [List.getElem?_drop] at h1
        have hg' : w.drew.heap[g]? = some (.cells arr 5 (0, 0)) := hg
        have h2 : arr[o + j]? = some (.int .u8 x.toNat) := by simpa using h1
        by_cases hj0 : j = 0 <;> simp [World.cell?, Addr.add, hg', hj0] <;> simpa [hj0] using h2
      · rintro e w' ⟨rfl, rfl⟩
        obtain ⟨f1, f2, f3, fd, f4, f5⟩ := freeze_keep w.drew ⟨g, o, none⟩ l.length
        exact ⟨rfl, f1, f2, f3, by rw [fd]; exact Nat.le_succ _, by rw [f4]; exact Nat.le_refl _, fun k hk hne => f5 k (hne g o _ _ rfl)⟩
theorem intr_ok : ∀ f k, ctx.intr f = some k → (∀ args w, (callFunc f args).run Try.prog w = .ok (.enter f args) w) ∧ IntrOk Try.prog f k := by
  intro f k h
  have hm : (f, k) ∈ intrTab := lkpI_mem h
  simp only [intrTab, List.mem_cons, List.not_mem_nil, or_false, Prod.mk.injEq] at hm
  rcases hm with ⟨rfl, rfl⟩ | ⟨rfl, rfl⟩
  · exact ⟨enters_of Try.func59 (by kernel_rfl) rfl, write_ok⟩
  · exact ⟨enters_of Try.func60 (by kernel_rfl) rfl, str_ok⟩
end Go.Proofs.K27
