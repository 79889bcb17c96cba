/- What slices.Grow does with nil. No condition but that the number is one that the evaluator lets in. -/
import Derived.Test.YtmnnfkhajhmjgaaProg
import Derived.Test.YtmnnfkhajhmjgaaC14
import Derived.Test.YtmnnfkhajhmjgaaMachine2
import Derived.WalkKit
import Derived.Shelf.Abstract
set_option linter.unusedVariables false
set_option linter.unusedSimpArgs false
namespace Go.Proofs.C14
open Go Go.Proofs.R
open Go.RowKit
set_option linter.unusedVariables false

theorem wpList_app {P : Program} {ops : Array Oper} {rest : List Oper} {o : Oper} {a : Act} {Q : Exit → Act → World → Prop} {w w' : World} {v vs vx : Value} (hgd : o.guard = none) (sl x : Operand) (T I : TypeId)
    (ho : o.op = .call { callee := .builtin .append, args := #[sl, x], argTypes := #[T, I] }) (hs : a.eval sl = vs) (hx : a.eval x = vx) (h : (Builtin.append_ #[T, I] o.type #[vs, vx]).run P w = .ok v w')
    (hn : wpList P ops Q rest (a.put o.dst v) w') : wpList P ops Q (o :: rest) a w := by
  refine wpList_plain hgd fun K hK => ?_
  unfold Oper.wp execOp
  simp only [ho, resolve, invoke, builtin, Sem.run_bind, Sem.run_pure, Result.andThen_ok, List.map_toArray, List.map_cons, List.map_nil, hs, hx, h]
  exact hK _ _ hn

theorem append_zeros {P : Program} {T I e : TypeId} (hT : P.underlying T = some (.slice e)) (hI : P.underlying I = some (.int .i64)) {i : TypeInfo} (hi : P.info? e = some i) {z : Value} (hz : i.zero = some z) (hb : i.bytes ≤ 8192) (hsz : 0 < i.size) {ty : TypeId} {w : World} {n : Nat} (hn : 0 < n) (hn2 : n ≤ 4294967296) :
    ∃ nc, n ≤ nc ∧ (Builtin.append_ #[T, I] ty #[.slice none 0 0, .int .i64 (n : Int)]).run P w =
      .ok (.slice (some ⟨w.heap.size, 0, none⟩) n nc) { w with drawn := w.drawn + 1, heap := w.heap.push (.cells (Builtin.zeroCells z.cells n ++ Builtin.zeroCells z.cells (nc - n)) e) } := by
  have hw : IntKind.i64.wrap (n : Int) = n := IntWalk.i64_in n (by omega)
  have h1 : ¬ (0 + n ≤ 0) := by omega
  have h0 : ¬ ((n : Int) < 0) := by omega
  have h48 : ¬ ((n : Int) * (i.bytes : Int) > 2 ^ 48) := by
    have : n * i.bytes ≤ 4294967296 * 8192 := Nat.mul_le_mul hn2 hb
    have h2 : ((n * i.bytes : Nat) : Int) = (n : Int) * (i.bytes : Int) := by simp
    rw [← h2]; omega
  have h2 : ¬ (((0 + n : Nat) : Int) > IntKind.i64.max) := by
    have : IntKind.i64.max = 9223372036854775807 := by decide
    rw [this]; omega
  have h3 : ¬ (Builtin.nextslicecap (0 + n) 0 * i.bytes > 2 ^ 48) := by
    have h4 := nextcap_le (n := 0 + n) (k := 0) (by omega)
    have h5 : Builtin.nextslicecap (0 + n) 0 * i.bytes ≤ (2 * (0 + n)) * 8192 := Nat.mul_le_mul h4 hb
    omega
  have hns : ¬ (n * i.size = 0) := Nat.mul_ne_zero (by omega) (by omega)
  refine ⟨(Question.appendCap (0 + n) 0 e).cut (w.tape w.drawn (Question.appendCap (0 + n) 0 e)), by simp [Question.cut], ?_⟩
  simp only [Nat.zero_add] at h1 h2 h3 ⊢
  simp [Builtin.append_, run_underlying hT, run_underlying hI, sizeOf, typeInfo, hi, run_program, asInt, asIntOf, hw, h0, h48, h1, h2, h3, hns, zeroValue, hz, run_choose, Question.forced, run_askRoom, newRow, Builtin.firstCells]
  rw [if_neg (by omega), if_neg (by omega), if_neg (by omega)]
  rfl

theorem inf39 : ∃ i z, Try.prog.info? 39 = some i ∧ i.size = 3 ∧ i.bytes ≤ 8192 ∧ i.zero = some z ∧ (∀ v ∈ z.cells.toList, v.oneCell' = true) ∧ z.cells.size = 3 := by
  have hT : typeB Try.prog 39 ((lkp te 39).getD ⟨.bool, none, 0, [], []⟩) = true := by kernel_rfl
  obtain ⟨i, z, h1, h2, h3, h4, _, h5, h6⟩ := (typeB_ok (c := ctx) hT).info
  exact ⟨i, z, h1, h2, h3, h4, h5, h6⟩
set_option maxRecDepth 100000 in
set_option maxHeartbeats 2000000 in
theorem grow_walk : IntrOk Try.prog 60 (.grow 22) := by
  intro e he w n h0 hn
  have he2 := Try.underlying22
  rw [he] at he2; cases he2
  obtain ⟨i, z, hi, his, hib, hiz, hz1, hzs⟩ := inf39
  have mixed : Try.prog.follows .mixedOrders = true := by kernel_rfl
  obtain ⟨m, rfl⟩ : ∃ m : Nat, n = m := ⟨n.toNat, by omega⟩
  have hw : IntKind.i64.wrap ((0 : Int) - 0) = 0 := rfl
  by_cases hm : m = 0
  · subst hm
    go_enter Try.func60, Try.ntmps60
    go_wp2
    go_ret
    exact ⟨none, 0, rfl, rfl, rfl, rfl, Nat.le_refl _, fun _ _ => rfl, .inl ⟨rfl, rfl⟩⟩
  · obtain ⟨nc, hnc, hrun⟩ := append_zeros (P := Try.prog) Try.underlying22 Try.underlying3 hi hiz hib (by omega) (ty := 22) (w := w) (n := m) (by omega) (by omega)
    have hsz : (Builtin.zeroCells z.cells m ++ Builtin.zeroCells z.cells (nc - m)).size = nc * 3 := by
      rw [Array.size_append, zeroCells_size, zeroCells_size, hzs]; omega
    have hone : ∀ v ∈ (Builtin.zeroCells z.cells m ++ Builtin.zeroCells z.cells (nc - m)).toList, v.oneCell' = true := by
      intro v hv
      rw [Array.toList_append] at hv
      rcases List.mem_append.1 hv with hv | hv
      · exact zeroCells_one hz1 m v hv
      · exact zeroCells_one hz1 (nc - m) v hv
    generalize Builtin.zeroCells z.cells m ++ Builtin.zeroCells z.cells (nc - m) = arr at hrun hsz hone
    have hpos : decide ((m : Int) > 0) = true := decide_eq_true (by omega)
    clear hz1 hzs hiz
    go_enter Try.func60, Try.ntmps60
    go_wp2_with (at_builtin; refine wpList_app rfl _ _ 22 3 rfl rfl rfl hrun ?_)
    go_wp2
    go_ret
    exact ⟨_, nc, rfl, rfl, rfl, rfl, (by show w.heap.size ≤ (w.heap.push _).size; simp), fun k hk => getElem?_push_lt _ _ _ hk,
      .inr ⟨w.heap.size, arr, i, rfl, Nat.le_refl _, (by show (w.heap.push _)[w.heap.size]? = _; simp), hi, (by rw [hsz, his]; exact Nat.le_refl _), hone⟩⟩
theorem intr_ok : ∀ f k, ctx.intr f = some k → (∀ args w, (callFunc f args).run Try.prog w = .ok (.enter f args) w) ∧ IntrOk Try.prog f k := by
  intro f k h
  have hm : (f, k) ∈ intrTab := lkpI_mem h
  simp only [intrTab, List.mem_cons, List.not_mem_nil, or_false, Prod.mk.injEq] at hm
  obtain ⟨rfl, rfl⟩ := hm
  exact ⟨enters_of Try.func60 (by kernel_rfl) rfl, grow_walk⟩
end Go.Proofs.C14
