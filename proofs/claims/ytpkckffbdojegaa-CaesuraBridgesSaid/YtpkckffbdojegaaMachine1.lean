/- The evaluator of the model's code over told values, and that what it tells is so: part 2. No condition. -/
import Derived.Test.YtpkckffbdojegaaMachine0
import Derived.Laws.Entries
import Derived.Laws.StructEq
set_option linter.unusedVariables false
set_option linter.unusedSimpArgs false
namespace Go.Proofs.R
open Go

/-- What is told of a type is so in the program. -/
structure TOk (P : Program) (c : Ctx) (t : TypeId) (te : TE) : Prop where
  info : ∃ i z, P.info? t = some i ∧ i.size = te.sz ∧ i.bytes ≤ 8192 ∧ i.zero = some z ∧ (∀ p : RP, RelLs p te.z z.cells.toList) ∧ (∀ v ∈ z.cells.toList, v.oneCell' = true) ∧ z.cells.size = te.sz
  under : match te.d with
    | .int k => P.underlying t = some (.int k)
    | .bool => P.underlying t = some .bool
    | .str => P.underlying t = some .string
    | .slice e => P.underlying t = some (.slice e)
    | .struct fs => ∃ fields : Array Field, P.underlying t = some (.struct fields) ∧ fields.toList.map (·.type) = fs ∧ fields.toList.map (·.offset) = te.offs ∧
        (∀ f ∈ fields.toList, ∃ j, P.info? f.type = some j ∧ j.size ≠ 0 ∧ f.name ≠ "_") ∧ P.stoodInHeld t = false ∧ P.eqGuardType P.depth t = false
    | .arr n e => P.underlying t = some (.array n e)
    | .ptr e => P.underlying t = some (.pointer e)
    | .map k e => P.underlying t = some (.map k e)
    | .func => ∃ a b v, P.underlying t = some (.func a b v)
    | .other => ∃ d, P.underlying t = some d ∧ (match d with | .struct _ | .array _ _ => false | _ => true) = true
  one : aggOf te = false → te.sz = 1
  zone : aggOf te = false → ∀ i z, P.info? t = some i → i.zero = some z → z.oneCell' = true

/-- a world that only has more than another one -/
def Grown (w w' : World) : Prop := w'.os = w.os ∧ w'.tape = w.tape ∧ w'.output = w.output ∧ w.drawn ≤ w'.drawn ∧ w.heap.size ≤ w'.heap.size ∧ ∀ k, k < w.heap.size → w'.heap[k]? = w.heap[k]?
/-- .. but for what one block holds -/
def SortedW (w : World) (b : Nat) (e : TypeId) (arr : Array Value) (w' : World) : Prop :=
  w'.os = w.os ∧ w'.tape = w.tape ∧ w'.output = w.output ∧ w.drawn ≤ w'.drawn ∧ w.heap.size ≤ w'.heap.size ∧ w'.heap[b]? = some (.cells arr e (0, 0)) ∧ ∀ k, k < w.heap.size → k ≠ b → w'.heap[k]? = w.heap[k]?
def elV (ag : Bool) (cs : List Value) : Value := if ag then .agg cs.toArray else cs.headD undef
/-- a call that sorts a slice of the caller's in its place -/
def SortAs (P : Program) (T : TypeId) (ag st : Bool) (sl : Value) (g : FuncId) (cb : Array Value) (f : FuncId) (args : Array Value) (res : Value) : Prop :=
  (∀ A cap, sl = .slice A 0 cap → ∀ w, Calls P f args w fun e w' => e = .returned res ∧ Grown w w') ∧
  ∀ e i, P.underlying T = some (.slice e) → P.info? e = some i → ∀ (α : Type) [Inhabited α] (enc : α → List Value) (cf : α → α → Int) (b cap : Nat) (pre rest : List Value) (d : List α) (w : World) (te : TypeId),
    sl = .slice (some ⟨b, pre.length, none⟩) d.length cap → (∀ x, (enc x).length = i.size) → (∀ x, ∀ v ∈ enc x, v.oneCell' = true) → (∀ xs : List α, SortsBy cf xs) → (∀ args w, (callFunc g args).run P w = .ok (.enter g args) w) →
    w.heap[b]? = some (.cells (pre ++ (d.flatMap enc ++ rest)).toArray te (0, 0)) → d.length ≤ 4294967296 →
    (∀ (dk : List α) (W : World), dk.length = d.length → SortedW w b te (pre ++ (dk.flatMap enc ++ rest)).toArray W → ∀ x y : α, Calls P g (#[elV ag (enc x), elV ag (enc y)] ++ cb) W fun ee w' => ee = .returned (.int .i64 (cf x y)) ∧ Grown W w') →
    Calls P f args w fun ee w' => ee = .returned res ∧ ∃ d', SortRes st cf d d' ∧ SortedW w b te (pre ++ (d'.flatMap enc ++ rest)).toArray w'
/-- what a function of the library does with an object of the caller's -/
def IntrOk (P : Program) (f : FuncId) : Intr → Prop
  | .bwrite T U X => ∀ (w w2 : World) (b : Nat) (pa v v' u : Value) (s : ByteArray), w.heap[b]? = some (.cells #[pa, v] T (0, 0)) → (pa = .pointer none ∨ pa = .pointer (some ⟨b, 0, none⟩)) →
      (Builtin.append_ #[U, X] U #[v, .string s]).run P (w.setRow b #[.pointer (some ⟨b, 0, none⟩), v]) = .ok v' w2 → (∃ A n m, v' = .slice A n m) → w2.heap[b]? = some (.cells #[.pointer (some ⟨b, 0, none⟩), u] T (0, 0)) →
      Calls P f #[.pointer (some ⟨b, 0, none⟩), .string s] w fun e w' => e = .returned (.tuple #[.int .i64 s.size, .nilIface]) ∧ w' = w2.setRow b #[.pointer (some ⟨b, 0, none⟩), v']
  | .bbyte T U X e => ∀ (w w2 : World) (b : Nat) (pa v v' u : Value) (n : Int), w.heap[b]? = some (.cells #[pa, v] T (0, 0)) → (pa = .pointer none ∨ pa = .pointer (some ⟨b, 0, none⟩)) →
      (Builtin.append_ #[U, X] U #[v, .slice (some ⟨w.heap.size, 0, none⟩) 1 1]).run P { w.setRow b #[.pointer (some ⟨b, 0, none⟩), v] with heap := (w.setRow b #[.pointer (some ⟨b, 0, none⟩), v]).heap.push (.cells #[.int .u8 n] e (0, 0)) } = .ok v' w2 → (∃ A n m, v' = .slice A n m) →
      w2.heap[b]? = some (.cells #[.pointer (some ⟨b, 0, none⟩), u] T (0, 0)) →
      Calls P f #[.pointer (some ⟨b, 0, none⟩), .int .u8 n] w fun e w' => e = .returned .nilIface ∧ w' = w2.setRow b #[.pointer (some ⟨b, 0, none⟩), v']
  | .bstr T e => ∀ (w : World) (b : Nat) (pa v : Value) (l : List UInt8), l.length ≤ 4294967296 → w.heap[b]? = some (.cells #[pa, v] T (0, 0)) →
      ((v = .slice none 0 0 ∧ l = []) ∨ ∃ g o cap arr rest, g ≠ b ∧ v = .slice (some ⟨g, o, none⟩) l.length cap ∧ w.heap[g]? = some (.cells arr e (0, 0)) ∧ l.length ≤ cap ∧ arr.toList.drop o = (l.map fun x => .int .u8 x.toNat) ++ rest ∧ o + cap ≤ arr.size) →
      Calls P f #[.pointer (some ⟨b, 0, none⟩)] w fun e w' => e = .returned (.string ⟨l.toArray⟩) ∧ w'.os = w.os ∧ w'.tape = w.tape ∧ w'.output = w.output ∧ w.drawn ≤ w'.drawn ∧ w.heap.size ≤ w'.heap.size ∧ ∀ k, k < w.heap.size → (∀ g o m n, v = .slice (some ⟨g, o, none⟩) m n → k ≠ g) → w'.heap[k]? = w.heap[k]?
  | .grow T => ∀ e, P.underlying T = some (.slice e) → ∀ (w : World) (n : Int), 0 ≤ n → n ≤ 4294967296 → Calls P f #[.slice none 0 0, .int .i64 n] w fun ee w' => ∃ A cap, ee = .returned (.slice A 0 cap) ∧
      w'.os = w.os ∧ w'.tape = w.tape ∧ w'.output = w.output ∧ w.drawn ≤ w'.drawn ∧ w.heap.size ≤ w'.heap.size ∧ (∀ k, k < w.heap.size → w'.heap[k]? = w.heap[k]?) ∧
      ((A = none ∧ cap = 0) ∨ ∃ g arr i, A = some ⟨g, 0, none⟩ ∧ w.heap.size ≤ g ∧ w'.heap[g]? = some (.cells arr e (0, 0)) ∧ P.info? e = some i ∧ cap * i.size ≤ arr.size ∧ ∀ v ∈ arr.toList, v.oneCell' = true)

  | .rev _ => (∀ (w : World) (A : Option Addr) (cap : Nat), Calls P f #[.slice A 0 cap] w fun e w' => e = .returned (.tuple #[]) ∧ w' = w) ∧
      ∀ (w : World) (b cap : Nat) (e : TypeId) (pre zs rest : List Value), w.heap[b]? = some (.cells (pre ++ (zs ++ rest)).toArray e (0, 0)) → zs.length ≤ 9223372036854775807 → (∀ v ∈ zs, v.oneCell' = true) →
        Calls P f #[.slice (some ⟨b, pre.length, none⟩) zs.length cap] w fun ee w' => ee = .returned (.tuple #[]) ∧ ∃ n, w.drawn ≤ n ∧ w' = { w.setRow b (pre ++ (zs.reverse ++ rest)).toArray with drawn := n }
  | .sort T ag st => ∀ sl g cb, SortAs P T ag st sl g cb f #[sl, .func (.func g) #[] cb] (.tuple #[])
  | .sortF U T j g => ∀ (arr : Array Value) sl i, P.info? U = some i → arr.size = i.size → (∀ v ∈ arr.toList, v.oneCell' = true) → arr[j]? = some sl → SortAs P T true false sl g #[] f #[.agg arr] (.agg arr)
  | .sortS U T i j g mi mj er => ∀ (arr : Array Value) sl ui n z A len cap, P.info? U = some ui → ui.zero = some z → arr.size = ui.size → (∀ v ∈ arr.toList, v.oneCell' = true) → arr[i]? = some (.int .i64 n) → arr[j]? = some sl → sl = .slice A len cap →
      ((n > mi ∨ (len : Int) > mj) → ∀ w, Calls P f #[.agg arr] w fun e w' => e = .returned (.tuple #[.agg z.cells, .int .i64 er]) ∧ Grown w w') ∧
      (¬ n > mi → ¬ (len : Int) > mj → SortAs P T true false sl g #[] f #[.agg arr] (.tuple #[.agg arr, .int .i64 0]))

structure EnvOk (P : Program) (c : Ctx) : Prop where
  intr : ∀ f k, c.intr f = some k → (∀ args w, (callFunc f args).run P w = .ok (.enter f args) w) ∧ IntrOk P f k
  mixed : P.follows .mixedOrders = true
  te : ∀ t e, lkp c.te t = some e → TOk P c t e
  fn : ∀ f fn, lkp c.fn f = some fn → P.funcs[f]? = some fn ∧ (fn.name == "runtime.NumGoroutine") = false
  mac : MacOk P c

section
variable {P : Program} {c : Ctx}

theorem wp_value {o : Oper} {a : Act} {w w' : World} {v : Value} {next : Act → World → Prop} {Q : Exit → Act → World → Prop}
    (h : (execOp a.eval o).run P w = .ok (.value v) w') (hn : next (a.put o.dst v) w') : o.wp P a w next Q := by
  unfold Oper.wp; rw [h]; exact hn
theorem wp_skip' {o : Oper} {a : Act} {w w' : World} {next : Act → World → Prop} {Q : Exit → Act → World → Prop}
    (h : (execOp a.eval o).run P w = .ok .skip w') (hn : next (a.put o.dst undef) w') : o.wp P a w next Q := by
  unfold Oper.wp; rw [h]; exact hn

/-- what the next step may count on -/
def After (F : Fr) (S : CellSet) (β : Nat → Place) (O O' : Nat → Option AObj) (w : World) (av : AV) (o : Oper) (a : Act) (next : Act → World → Prop) : Prop :=
  ∀ S' β' w' v, Core F S' β' O' w' → (F.rp S β O w).le (F.rp S' β' O' w') → RelAV (F.rp S' β' O' w') av v → next (a.put o.dst v) w'

theorem le_refl (p : RP) : p.le p := ⟨fun _ _ h => h, fun _ _ _ _ h => h, fun _ _ h => h, rfl, fun _ o h => ⟨o, h, AObj.to_refl o, fun _ => rfl⟩⟩

theorem gv_rel (hE : EnvOk P c) {p : RP} {σ : List (Nat × AV)} {a : Act} (hs : Slots p (lkp σ) a.tmps) {x : Operand} {T : TypeId} {av : AV} (h : gv c σ x T = some av) : RelAV p av (a.eval x) := by
  unfold gv at h
  split at h
  · exact hs.tmp h
  · cases h; exact .inr rfl
  · cases h; exact .inr rfl
  · cases h; exact .inr rfl
  · simp only [Option.bind_eq_some_iff] at h
    obtain ⟨te, _, h⟩ := h
    split at h
    · cases h; exact .inr rfl
    · cases h
  · cases h; exact .inr ⟨#[], rfl, rfl⟩
  · cases h

theorem RelL_cells {p : RP} : ∀ (l : Lf) {cs : List Value}, RelL p l cs → ∀ v ∈ cs, v.oneCell' = true
  | .v t x, _, h => Rd_one t h
  | .nil _ _, _, h => by simp only [RelL] at h; subst h; simp [Value.oneCell']
  | .row n, _, h => by
    unfold RelL at h; split at h
    · subst h; simp [Value.oneCell']
    · subst h; simp [Value.oneCell']
    · obtain ⟨v, rfl, h⟩ := h; simpa using h
    · exact h.elim
  | .ref n off, _, h => by
    unfold RelL at h; split at h
    · obtain ⟨b, _, rfl⟩ := h; simp [Value.oneCell']
    · obtain ⟨b, _, rfl⟩ := h; simp [Value.oneCell']
    · obtain ⟨b, _, rfl⟩ := h; simp [Value.oneCell']
    · obtain ⟨v, rfl, h⟩ := h; simpa using h
    · exact h.elim
  | .eref n i off, _, h => by
    unfold RelL at h; split at h
    · obtain ⟨b, o, _, _, _, rfl⟩ := h; simp [Value.oneCell']
    · obtain ⟨b, o, _, _, _, rfl⟩ := h; simp [Value.oneCell']
    · obtain ⟨b, _, rfl⟩ := h; cases decide (i < 0) <;> simp [Value.oneCell']
    · obtain ⟨v, rfl, h⟩ := h; simpa using h
    · exact h.elim
  | .view n lo hi, _, h => by
    unfold RelL at h; split at h
    · obtain ⟨_, _, _, rfl⟩ := h; simp [Value.oneCell']
    · obtain ⟨v, rfl, h⟩ := h; simpa using h
    · exact h.elim
  | .pref ls off, _, ⟨_, _, _, e, _, _⟩ => by subst e; simp [Value.oneCell']
  | .clo f caps, _, ⟨_, e, _⟩ => by subst e; simp [Value.oneCell']
  | .undef, _, ⟨v, e, h⟩ => by subst e; simpa using h
  | .nilp, _, h => by simp only [RelL] at h; subst h; simp [Value.oneCell']
  | .mp n, _, h => by
    unfold RelL at h; split at h
    · obtain ⟨b, _, rfl⟩ := h; simp [Value.oneCell']
    · obtain ⟨v, rfl, h⟩ := h; simpa using h
    · exact h.elim
theorem RelLs_cells {p : RP} : ∀ (ls : List Lf) {cs : List Value}, RelLs p ls cs → ∀ v ∈ cs, v.oneCell' = true
  | [], _, h => by simp only [RelLs] at h; subst h; simp
  | l :: ls, _, ⟨c, d, e, h1, h2⟩ => by
    subst e
    intro v hv
    rcases List.mem_append.1 hv with hv | hv
    · exact RelL_cells l h1 v hv
    · exact RelLs_cells ls h2 v hv

theorem cells_one {v : Value} (h : v.oneCell' = true) : v.cells = #[v] := by
  cases v <;> first | rfl | (simp [Value.oneCell'] at h)

/-- the cells of a value that is known -/
theorem leafs_rel {p : RP} {av : AV} {v : Value} {ls : List Lf} (e : av.leafs? = some ls) (h : RelAV p av v) : RelLs p ls v.cells.toList := by
  unfold AV.leafs? at e
  split at e
  · cases e
  · rename_i l hl
    cases e
    rcases h with rfl | h
    · exact (hl rfl).elim
    · have := RelL_cells l h v (by simp)
      rw [cells_one this]
      exact ⟨[v], [], rfl, h, rfl⟩
  · cases e
    obtain ⟨cs, rfl, h2⟩ := h
    exact h2
  · cases e

theorem one_rel {p : RP} {av : AV} {v : Value} {l : Lf} (e : one? av = some l) (hu : l ≠ .undef) (h : RelAV p av v) : RelL p l [v] := by
  cases av with
  | one l' =>
    simp only [one?, Option.some.injEq] at e; subst e
    exact h.resolve_left hu
  | agg ls => simp [one?] at e
  | tup vs => simp [one?] at e

theorem int_rel {p : RP} {av : AV} {v : Value} {n : Int} (e : intOf? av = some n) (h : RelAV p av v) : ∃ k, v = .int k n := by
  unfold intOf? at e
  split at e
  · rename_i k m
    cases e
    rcases h with h | h
    · cases h
    · simp only [RelL, Rd, List.cons.injEq, and_true] at h
      exact ⟨k, h⟩
  · cases e

/-! ### operations that compute -/
variable {F : Fr} {S : CellSet} {β : Nat → Place} {O : Nat → Option AObj} {w : World} {a : Act} {σ : List (Nat × AV)} {o : Oper} {next : Act → World → Prop} {Q : Exit → Act → World → Prop}

/-- an operation that changes nothing -/
theorem pure_ok (hc : Core F S β O w) {av : AV} {v : Value} (h : (execOp a.eval o).run P w = .ok (.value v) w) (hr : RelAV (F.rp S β O w) av v)
    (hn : After F S β O (over [] O) w av o a next) : o.wp P a w next Q :=
  wp_value h (hn S β w v hc (le_refl _) hr)

theorem move_ok (hE : EnvOk P c) (hc : Core F S β O w) (hs : Slots (F.rp S β O w) (lkp σ) a.tmps) {x : Operand} (ho : o.op = .move x ∨ o.op = .assign x) {av : AV} (h : gv c σ x o.type = some av)
    (hn : After F S β O (over [] O) w av o a next) : o.wp P a w next Q := by
  refine pure_ok hc (v := a.eval x) ?_ (gv_rel hE hs h) hn
  rcases ho with ho | ho <;> simp [execOp, ho]

theorem pick_ok (hE : EnvOk P c) (hc : Core F S β O w) (hs : Slots (F.rp S β O w) (lkp σ) a.tmps) {x y z : Operand} (ho : o.op = .pick x y z) {g : Bool} (h : gv c σ x 0 = some (.one (.v .bool g))) {av : AV}
    (hr : RelAV (F.rp S β O w) av (if g then a.eval y else a.eval z))
    (hn : After F S β O (over [] O) w av o a next) : o.wp P a w next Q := by
  have hx := gv_rel hE hs h
  rcases hx with hx | hx
  · cases hx
  simp only [RelL, Rd, List.cons.injEq, and_true] at hx
  refine pure_ok hc (v := if g then a.eval y else a.eval z) ?_ hr hn
  simp [execOp, ho, hx, asBool]

theorem box_ok (hE : EnvOk P c) (hc : Core F S β O w) (hs : Slots (F.rp S β O w) (lkp σ) a.tmps) {T : TypeId} {x : Operand} (ho : o.op = .box T x) {av : AV} (h : gv c σ x T = some av) {ls : List Lf} (hl : av.leafs? = some ls)
    {n : Nat} (hnew : O n = none) (hn : After F S β O (over [(n, .box T ls)] O) w (.one (.ref n 0)) o a next) : o.wp P a w next Q := by
  have hv := leafs_rel hl (gv_rel hE hs h)
  obtain ⟨h1, h2⟩ := hc.new hnew (.box T ls) (by intro e t xs hh; cases hh) (.cells (a.eval x).cells T (0, 0)) 0 (by
    intro q hq hb hw
    exact ⟨w.heap.size, _, by rw [hb], hw, RelLs_le hq ls hv⟩)
  refine wp_value (v := .pointer (some ⟨w.heap.size, 0, none⟩)) (w' := { w with heap := w.heap.push (.cells (a.eval x).cells T (0, 0)) }) ?_ ?_
  · simp [execOp, ho, Instr.box, newVar, newRow]
  · rw [over_cons, over_nil] at hn
    refine hn _ _ _ _ h1 h2 (.inr ?_)
    unfold RelL
    simp only [Fr.rp, upd_same]
    exact ⟨w.heap.size, rfl, rfl⟩

theorem alloc_ok (hE : EnvOk P c) (hc : Core F S β O w) {T : TypeId} (ho : o.op = .alloc T) {te : TE} (ht : lkp c.te T = some te)
    {n : Nat} (hnew : O n = none) (hn : After F S β O (over [(n, .box T te.z)] O) w (.one (.ref n 0)) o a next) : o.wp P a w next Q := by
  obtain ⟨i, z, hi, _, _, hz, hzr, hz1, _⟩ := (hE.te T te ht).info
  obtain ⟨h1, h2⟩ := hc.new hnew (.box T te.z) (by intro e t xs hh; cases hh) (.cells z.cells T (0, 0)) 0 (by
    intro q hq hb hw
    exact ⟨w.heap.size, _, by rw [hb], hw, hzr q⟩)
  refine wp_value (v := .pointer (some ⟨w.heap.size, 0, none⟩)) (w' := { w with heap := w.heap.push (.cells z.cells T (0, 0)) }) ?_ ?_
  · simp [execOp, ho, Instr.alloc, newVar, newRow, zeroValue, typeInfo, hi, hz]
  · rw [over_cons, over_nil] at hn
    refine hn _ _ _ _ h1 h2 (.inr ?_)
    unfold RelL
    simp only [Fr.rp, upd_same]
    exact ⟨w.heap.size, rfl, rfl⟩
end
end Go.Proofs.R

/- Each operation does in memory what the evaluator tells: loads, stores, arithmetic. -/
namespace Go.Proofs.R
open Go
section
variable {P : Program} {c : Ctx}

theorem isAgg_run {T : TypeId} {te : TE} (hT : TOk P c T te) (w : World) : (isAgg T).run P w = .ok (aggOf te) w := by
  have hu := hT.under
  unfold isAgg
  rw [Sem.run_bind]
  cases hd : te.d <;> rw [hd] at hu <;> simp only at hu <;> unfold aggOf <;> rw [hd]
  case struct fs => obtain ⟨f, h1, _⟩ := hu; rw [run_underlying h1]; rfl
  case func => obtain ⟨x, y, v, h1⟩ := hu; rw [run_underlying h1]; rfl
  case other =>
    obtain ⟨d, h1, h2⟩ := hu
    rw [run_underlying h1]
    cases d <;> first | rfl | (simp at h2)
  all_goals (rw [run_underlying hu]; rfl)

theorem sizeOf_run {T : TypeId} {te : TE} (hT : TOk P c T te) (w : World) : (sizeOf T).run P w = .ok te.sz w := by
  obtain ⟨i, z, hi, hs, _⟩ := hT.info
  simp [sizeOf, typeInfo, hi, hs]

theorem add_at (b o n : Nat) : (⟨b, o, none⟩ : Addr).add n = ⟨b, o + n, none⟩ := by
  unfold Addr.add; split <;> simp_all

theorem load_run {T : TypeId} {te : TE} (hT : TOk P c T te) {w : World} {b o : Nat} {cs : List Value} (hc : ∀ j v, cs[j]? = some v → cellAt w b (o + j) = some v) (hl : cs.length = te.sz)
    {p : RP} {q : List Lf} {av : AV} (hv : valOf te q = some av) (hr : RelLs p q cs) :
    ∃ v, (Instr.loadAt T (.pointer (some ⟨b, o, none⟩))).run P w = .ok v w ∧ RelAV p av v := by
  unfold valOf at hv
  cases ha : aggOf te with
  | true =>
    rw [ha] at hv; simp only [cond_true, Option.some.injEq] at hv; subst hv
    refine ⟨.agg cs.toArray, ?_, ⟨cs.toArray, rfl, by simpa using hr⟩⟩
    have h2 : (loadCells ⟨b, o, none⟩ te.sz).run P w = .ok cs.toArray w := by
      rw [← hl]
      refine run_loadCells_list (P := P) w ⟨b, o, none⟩ cs ?_
      intro j v hj; rw [add_at]; exact hc j v hj
    simp [Instr.loadAt, Instr.sureAddr, loadVar, isAgg_run hT, ha, sizeOf_run hT, h2]
  | false =>
    rw [ha] at hv; simp only [cond_false] at hv
    split at hv
    · rename_i l
      cases hv
      have h1 := hT.one ha
      rw [h1] at hl
      match cs, hl with
      | [v], _ =>
        refine ⟨v, ?_, .inr ?_⟩
        · have := hc 0 v rfl
          simp only [Nat.add_zero, cellAt] at this
          simp [Instr.loadAt, Instr.sureAddr, loadVar, isAgg_run hT, ha, this]
        · obtain ⟨c1, d, e, h3, h4⟩ := hr
          simp only [RelLs] at h4; subst h4
          simp only [List.append_nil] at e; subst e; exact h3
    · cases hv

variable {F : Fr} {S : CellSet} {β : Nat → Place} {O : Nat → Option AObj} {w : World} {a : Act} {σ : List (Nat × AV)} {o : Oper} {next : Act → World → Prop} {Q : Exit → Act → World → Prop}

theorem At_cells {S : CellSet} {w : World} {b o : Nat} {cs : List Value} (h : At S w b o cs) : ∀ j v, cs[j]? = some v → cellAt w b (o + j) = some v :=
  fun _ _ hj => (At_get h hj).1

/-- cells in the middle of cells -/
theorem mid_cells {w : World} {b o : Nat} {x y z : List Value} (h : ∀ j v, (x ++ (y ++ z))[j]? = some v → cellAt w b (o + j) = some v) : ∀ j v, y[j]? = some v → cellAt w b (o + x.length + j) = some v := by
  intro j v hj
  have hlt := (List.getElem?_eq_some_iff.1 hj).1
  rw [Nat.add_assoc]
  refine h (x.length + j) v ?_
  rw [List.getElem?_append_right (by omega), show x.length + j - x.length = j from by omega, List.getElem?_append_left hlt, hj]

theorem arr_cells {w : World} {b : Nat} {arr : Array Value} {e : TypeId} {fz : Nat × Nat} (hb : w.heap[b]? = some (.cells arr e fz)) : ∀ j v, arr.toList[j]? = some v → cellAt w b (0 + j) = some v := by
  intro j v hj
  simp only [cellAt, World.cell?, hb, Nat.zero_add]
  simpa using hj

/-- an element of a row, with its cells -/
theorem RdsOf_at {α : Type} {R : List Value → α → Prop} {k : Nat} (hk : ∀ c x, R c x → c.length = k) : ∀ {xs : List α} {cs : List Value} {i : Nat} {y : α}, RdsOf R cs xs → xs[i]? = some y →
    ∃ x c z, cs = x ++ (c ++ z) ∧ x.length = i * k ∧ R c y
  | [], _, i, y, _, h => by simp at h
  | x :: xs, _, 0, y, ⟨c, d, e, h1, h2⟩, h => by
    simp at h; subst h; exact ⟨[], c, d, by simpa using e, by simp, h1⟩
  | x :: xs, _, i + 1, y, ⟨c, d, e, h1, h2⟩, h => by
    obtain ⟨x', c', z, e', hl, h3⟩ := RdsOf_at hk h2 (i := i) (by simpa using h)
    subst e; subst e'
    exact ⟨c ++ x', c', z, by simp, by rw [List.length_append, hk _ _ h1, hl, Nat.add_mul]; omega, h3⟩

theorem ixAt_some {α : Type} {xs : List α} {i : Int} {y : α} (h : ixAt xs i = some y) : 0 ≤ i ∧ i < xs.length ∧ xs[i.toNat]? = some y := by
  unfold ixAt at h
  split at h
  · rename_i h0
    have := (List.getElem?_eq_some_iff.1 h).1
    exact ⟨h0, by omega, h⟩
  · cases h

theorem scal_size {t : Ty} (h : scal t = true) : t.size = 1 := by cases t <;> first | rfl | cases h

/-- an array among leafs -/
theorem arrAt_rel {p : RP} {ls : List Lf} {off : Nat} {q : List Lf × Nat × (Σ t : Ty, List t.V) × List Lf} (h : arrAt ls off = some q) {cs : List Value} (hr : RelLs p ls cs) :
    ∃ x y z, cs = x ++ (y ++ z) ∧ x.length = off ∧ RelLs p q.1 x ∧ q.2.2.1.2.length = q.2.1 ∧ RdsOf (Rd p.S p.w q.2.2.1.1) y q.2.2.1.2 ∧ RelLs p q.2.2.2 z := by
  unfold arrAt at h
  simp only [Option.bind_eq_some_iff] at h
  obtain ⟨⟨a, b⟩, h1, h2⟩ := h
  simp only at h2
  split at h2
  · rename_i m t xs r
    simp only [Option.some.injEq] at h2
    subst h2
    obtain ⟨e1, e2⟩ := takeCells_eq h1
    subst e1
    obtain ⟨c1, d1, rfl, h3, h4⟩ := RelLs_split a _ hr
    obtain ⟨c2, d2, rfl, h5, h6⟩ := h4
    unfold RelL at h5
    obtain ⟨h7, h8⟩ := h5
    exact ⟨c1, c2, d2, rfl, by rw [RelLs_len _ h3, e2], h3, h7, h8, h6⟩
  · cases h2

theorem load_ok (hE : EnvOk P c) (hc : Core F S β O w) (hs : Slots (F.rp S β O w) (lkp σ) a.tmps) {T : TypeId} {x : Operand} (ho : o.op = .load T x) {te : TE} (ht : lkp c.te T = some te)
    {p : AV} (hp : gv c σ x 0 = some p) {l : Lf} (hl : one? p = some l) {lk : Nat → Option AObj} (hlk : ∀ n o, lk n = some o → O n = some o) {av : AV} {u : Upd} (h : loadOp lk te l two = some (av, u))
    (hn : After F S β O (over u O) w av o a next) : o.wp P a w next Q := by
  have hT := hE.te T te ht
  have hrun : ∀ b off v, a.eval x = .pointer (some ⟨b, off, none⟩) → (Instr.loadAt T (.pointer (some ⟨b, off, none⟩))).run P w = .ok v w → (execOp a.eval o).run P w = .ok (.value v) w := by
    intro b off v hx hr
    simp [execOp, ho, hx, hr]
  unfold loadOp at h
  split at h
  · rename_i n off
    have hx := one_rel hl (by simp) (gv_rel hE hs hp)
    split at h
    · rename_i T' ls hn'
      simp only [Option.bind_eq_some_iff, two, Option.some.injEq, Prod.mk.injEq] at h
      obtain ⟨q, hq, v, hv, rfl, rfl⟩ := h
      have hO := hlk n _ hn'
      obtain ⟨b, arr, h1, h2, h3⟩ := hc.obj n _ hO
      unfold RelL at hx
      simp only [Fr.rp] at hx h1 h2
      rw [hO] at hx; simp only at hx
      obtain ⟨b', hb', hx⟩ := hx
      rw [h1] at hb'; simp only [Option.some.injEq, Prod.mk.injEq, and_true] at hb'; subst hb'
      simp only [List.cons.injEq, and_true] at hx
      obtain ⟨x1, y1, z1, e1, l1, l2, h4⟩ := subCells_rel hq h3
      have hcell := mid_cells (x := x1) (y := y1) (z := z1) (o := 0) (b := b) (w := w) (by rw [← e1]; exact arr_cells h2)
      rw [l1] at hcell
      obtain ⟨v', hr, hrel⟩ := load_run hT (o := off) (b := b) (by simpa using hcell) l2 hv h4
      exact pure_ok hc (hrun _ _ _ hx hr) hrel hn
    · cases h
  · rename_i ls off
    have hx := one_rel hl (by simp) (gv_rel hE hs hp)
    simp only [Option.bind_eq_some_iff, two, Option.some.injEq, Prod.mk.injEq] at h
    obtain ⟨q, hq, v, hv, rfl, rfl⟩ := h
    obtain ⟨b, o', ds, e, h1, h2⟩ := hx
    simp only [List.cons.injEq, and_true] at e
    obtain ⟨x1, y1, z1, e1, l1, l2, h4⟩ := subCells_rel hq h1
    have hcell := mid_cells (x := x1) (y := y1) (z := z1) (o := o') (b := b) (w := w) (by rw [← e1]; exact At_cells h2)
    rw [l1] at hcell
    obtain ⟨v', hr, hrel⟩ := load_run hT hcell l2 hv h4
    exact pure_ok hc (hrun _ _ _ e hr) hrel hn
  · rename_i n i off
    have hx := one_rel hl (by simp) (gv_rel hE hs hp)
    split at h
    · rename_i e0 t xs fz hn'
      simp only [bindD, Option.bind_eq_some_iff, two, Option.some.injEq, Prod.mk.injEq] at h
      obtain ⟨y, hy, q, hq, v, hv, rfl, rfl⟩ := h
      have hO := hlk n _ hn'
      unfold RelL at hx
      simp only [Fr.rp] at hx
      rw [hO] at hx; simp only at hx
      obtain ⟨b, o', hb, h0, h1, e⟩ := hx
      simp only [List.cons.injEq, and_true] at e
      rcases hc.obj n _ hO with ⟨h3, _⟩ | ⟨b', o2, arr, cs, rest, h3, h4, h5, h6, h7, h8, h9, h10⟩
      · simp only [Fr.rp] at h3; rw [h3] at hb; cases hb
      · simp only [Fr.rp] at h3 h4 h7
        rw [h3] at hb; simp only [Option.some.injEq, Prod.mk.injEq] at hb
        obtain ⟨rfl, rfl⟩ := hb
        obtain ⟨_, _, hyn⟩ := ixAt_some hy
        obtain ⟨x1, c1, z1, e1, l1, h11⟩ := RdsOf_at (fun _ _ => Rd_len t) h7 hyn
        obtain ⟨x2, y2, z2, e2, l2, l3, h12⟩ := subCells_rel (p := F.rp S β O w) hq (RelLs_leaves (p := F.rp S β O w) t h11)
        have hcell0 : ∀ j v, (x1 ++ (c1 ++ (z1 ++ rest)))[j]? = some v → cellAt w b' (o2 + j) = some v := by
          intro j v hj
          have : (arr.toList.drop o2)[j]? = some v := by rw [h6, e1]; simpa using hj
          rw [List.getElem?_drop] at this
          have := arr_cells h4 (o2 + j) v this
          simpa using this
        have hcell1 := mid_cells hcell0
        rw [l1] at hcell1
        have hcell2 : ∀ j v, (x2 ++ (y2 ++ z2))[j]? = some v → cellAt w b' (o2 + i.toNat * t.size + j) = some v := by rw [← e2]; exact hcell1
        have hcell3 := mid_cells hcell2
        rw [l2] at hcell3
        obtain ⟨v', hr, hrel⟩ := load_run hT hcell3 l3 hv h12
        exact pure_ok hc (hrun _ _ _ e hr) hrel hn
    · rename_i T' ls hn'
      simp only [Option.bind_eq_some_iff] at h
      obtain ⟨q, hq, h⟩ := h
      cases hb : (scal q.2.2.1.1 && Nat.beq te.sz 1) with
      | false => rw [hb] at h; cases h
      | true =>
        rw [hb, cond_true] at h
        rw [Bool.and_eq_true] at hb
        simp only [bindD, Option.bind_eq_some_iff, two, Option.some.injEq, Prod.mk.injEq] at h
        obtain ⟨y, hy, v, hv, rfl, rfl⟩ := h
        have hO := hlk n _ hn'
        obtain ⟨b, arr, h1, h2, h3⟩ := hc.obj n _ hO
        unfold RelL at hx
        simp only [Fr.rp] at hx h1 h2
        rw [hO] at hx; simp only at hx
        obtain ⟨b', hb', hx⟩ := hx
        rw [h1] at hb'; simp only [Option.some.injEq, Prod.mk.injEq, and_true] at hb'; subst hb'
        simp only [List.cons.injEq, and_true] at hx
        obtain ⟨x1, y1, z1, e1, l1, _, _, h4, _⟩ := arrAt_rel hq h3
        obtain ⟨h0i, _, hyn⟩ := ixAt_some hy
        rw [decide_eq_false (by omega), cond_false] at hx
        obtain ⟨x2, c2, z2, e2, l2, h5⟩ := RdsOf_at (fun _ _ => Rd_len _) h4 hyn
        have hcell := mid_cells (x := x1 ++ x2) (y := c2) (z := z2 ++ z1) (o := 0) (b := b) (w := w) (by
          have : x1 ++ x2 ++ (c2 ++ (z2 ++ z1)) = arr.toList := by rw [e1, e2]; simp
          rw [this]; exact arr_cells h2)
        rw [List.length_append, l1, l2, scal_size hb.1, Nat.mul_one] at hcell
        have hsz1 : te.sz = 1 := Nat.eq_of_beq_eq_true hb.2
        obtain ⟨v', hr, hrel⟩ := load_run hT (o := off + i.toNat) (b := b) (cs := c2) (by simpa using hcell) (by rw [hsz1, Rd_len _ h5, scal_size hb.1]) hv (p := F.rp S β O w) ⟨c2, [], by simp, h5, rfl⟩
        exact pure_ok hc (hrun _ _ _ hx hr) hrel hn
    · cases h
  · cases h
end
end Go.Proofs.R

/- Each operation does in memory what the evaluator tells: stores. -/
namespace Go.Proofs.R
open Go
section
variable {P : Program} {c : Ctx}

theorem store_run {T : TypeId} {te : TE} (hT : TOk P c T te) {w : World} {b o : Nat} {arr : Array Value} {e : TypeId} (hb : w.heap[b]? = some (.cells arr e (0, 0))) {v : Value} (hv : v.cells.size = te.sz)
    (h1 : ∀ u ∈ v.cells.toList, u.oneCell' = true) {x y z : List Value} (ha : arr.toList = x ++ (y ++ z)) (hx : x.length = o) (hy : y.length = te.sz) :
    (Instr.storeAt T (.pointer (some ⟨b, o, none⟩)) v).run P w = .ok () (w.setRow b (x ++ (v.cells.toList ++ z)).toArray) := by
  have hlen : arr.size = o + (te.sz + z.length) := by
    have := congrArg List.length ha
    simp only [Array.length_toList, List.length_append] at this
    omega
  have hvl : v.cells.toList.length = te.sz := by simpa using hv
  have hst := run_storeCells_at (P := P) b o e v.cells.toList 0 arr w hb (by omega) h1
  have e1 : arr.toList.take (o + 0) = x := by rw [ha, Nat.add_zero, ← hx]; simp
  have e2 : arr.toList.drop (o + 0 + v.cells.toList.length) = z := by
    rw [ha, hvl, Nat.add_zero, ← hx, ← hy]
    rw [← List.append_assoc, List.drop_append_of_le_length (by simp)]
    simp
  rw [e1, e2] at hst
  have hsz : ¬ (v.cells.size ≠ te.sz) := by simp [hv]
  simp [Instr.storeAt, Instr.sureAddr, storeVar, sizeOf_run hT, hv, hst, List.append_assoc]

theorem beq_sz {m n : Nat} (h : Nat.beq m n = true) : m = n := Nat.eq_of_beq_eq_true h

theorem memB_false {l : List Nat} {n : Nat} (h : memB l n = false) : n ∉ l := by
  induction l with
  | nil => simp
  | cons m l ih =>
    simp only [memB, Bool.or_eq_false_iff] at h
    obtain ⟨h1, h2⟩ := h
    intro hm
    rcases List.mem_cons.1 hm with rfl | hm
    · simp at h1
    · exact ih h2 hm
theorem memB_true {l : List Nat} {n : Nat} (h : memB l n = true) : n ∈ l := by
  induction l with
  | nil => simp [memB] at h
  | cons m l ih =>
    simp only [memB, Bool.or_eq_true] at h
    rcases h with h | h
    · rw [Nat.eq_of_beq_eq_true h]; exact List.mem_cons_self
    · exact List.mem_cons_of_mem _ (ih h)
theorem rowLk_some {lk : Nat → Option AObj} {ns : List Nat} {n : Nat} {o : AObj} (h : rowLk lk ns n = some o) : n ∈ ns ∧ lk n = some o ∧ ∃ e t xs fz, o = .row e t xs fz := by
  unfold rowLk at h
  cases hm : memB ns n with
  | false => rw [hm] at h; cases h
  | true =>
    rw [hm] at h; simp only [cond_true] at h
    split at h
    · rename_i e t xs fz hl
      cases h
      exact ⟨memB_true hm, hl, _, _, _, _, rfl⟩
    · cases h

variable {F : Fr} {S : CellSet} {β : Nat → Place} {O : Nat → Option AObj} {w : World} {a : Act} {σ : List (Nat × AV)} {o : Oper} {next : Act → World → Prop} {Q : Exit → Act → World → Prop}

theorem le_trans_same {p q r : RP} (h1 : p.le q) (h2 : q.le r) (hb : ∀ n o o', p.O n = some o → r.O n = some o' → o'.live = true → r.β n = p.β n) : p.le r := by
  refine ⟨fun b i hs => h2.S b i (h1.S b i hs), fun b i v hs hc => h2.cells b i v (hs.imp (h1.S b i) (h1.N b i)) (h1.cells b i v hs hc), fun b i hs => h2.N b i (h1.N b i hs), h2.root.trans h1.root, ?_⟩
  intro n o ho
  obtain ⟨o1, ho1, t1, _⟩ := h1.obj n o ho
  obtain ⟨o2, ho2, t2, _⟩ := h2.obj n o1 ho1
  refine ⟨o2, ho2, ?_, hb n o o2 ho ho2⟩
  cases o with
  | dead => simp only [AObj.to] at t1; subst t1; exact t2
  | box T ls =>
    rcases t1 with rfl | ⟨T1, ls1, rfl⟩
    · simp only [AObj.to] at t2; exact .inl t2
    · exact t2
  | iter s pos =>
    rcases t1 with rfl | ⟨s1, pos1, rfl⟩
    · simp only [AObj.to] at t2; exact .inl t2
    · exact t2
  | miter l k s =>
    rcases t1 with rfl | ⟨l1, k1, s1, rfl⟩
    · simp only [AObj.to] at t2; exact .inl t2
    · exact t2
  | rows e e' t xss s => trivial
  | lrow e hs => exact lrow_trans t1 t2
  | mp k e t u m =>
    rcases t1 with rfl | ⟨k1, e1, t3, u1, m1, rfl⟩
    · simp only [AObj.to] at t2; exact .inl t2
    · exact t2
  | row e t xs fz =>
    rcases t1 with rfl | ⟨e1, xs1, fz1, rfl, hl⟩
    · simp only [AObj.to] at t2; exact .inl t2
    · rcases t2 with rfl | ⟨e2, xs2, fz2, rfl, hl2⟩
      · exact .inl rfl
      · exact .inr ⟨e2, xs2, fz2, rfl, hl2.trans hl⟩

/-- rows among names are opened by freezing them -/
theorem freezes_opens (hc : Core F S β O w) {lk : Nat → Option AObj} (hlk : ∀ n o, lk n = some o → O n = some o) (ns : List Nat) :
    ∃ S', Core F S' β (over (freezes lk ns) O) w ∧ (F.rp S β O w).le (F.rp S' β (over (freezes lk ns) O) w) ∧
      (∀ n e t xs fz, O n = some (.row e t xs fz) → n ∉ ns → over (R.freezes lk ns) O n = some (.row e t xs fz)) ∧
      (∀ n T ls, O n = some (.box T ls) → over (R.freezes lk ns) O n = some (.box T ls)) ∧
      Opens (F.rp S β O w) (F.rp S' β (over (freezes lk ns) O) w) (rowLk lk ns) := by
  obtain ⟨S', h1, h2, h3, h4⟩ := hc.freezes hlk ns
  refine ⟨S', h1, h2, ?_, h4, ?_⟩
  · intro n e t xs fz hO hm
    have : lkp (freezes lk ns) n = none := by
      clear h1 h2 h3 h4
      induction ns with
      | nil => rfl
      | cons m ns ih =>
        simp only [List.mem_cons, not_or] at hm
        unfold freezes
        split
        · rw [lkp_cons, if_neg hm.1]; exact ih hm.2
        · exact ih hm.2
    unfold over; rw [this]; exact hO
  · refine ⟨h2.S, h2.cells, fun b i hn => .inl hn, ?_, ?_⟩
    · intro n e t xs fz hl
      obtain ⟨hm, hl', _⟩ := rowLk_some hl
      have hO := hlk n _ hl'
      obtain ⟨fz', h5, _, h6⟩ := h3 n _ _ _ _ hO
      have := h6 hm (by rw [hl']; simp); subst this
      obtain ⟨h7, h8⟩ := h1.froz_reads h5
      exact ⟨hO, h7, h8⟩
    · intro n T ls hl
      obtain ⟨_, _, _, _, _, _, h⟩ := rowLk_some hl
      cases h

theorem setRow_len {α : Type} (xs : List α) (i : Int) (x : α) : (setRow xs i x).length = xs.length := by simp [setRow]

theorem RdsOf_put {α : Type} {R : List Value → α → Prop} {k : Nat} (hk : ∀ c x, R c x → c.length = k) : ∀ {xs : List α} {cs : List Value} {i : Nat} {y z : α} {c : List Value}, RdsOf R cs xs → xs[i]? = some y → R c z →
    ∃ x d r, cs = x ++ (d ++ r) ∧ x.length = i * k ∧ R d y ∧ RdsOf R (x ++ (c ++ r)) (xs.set i z)
  | [], _, i, y, _, _, _, h, _ => by simp at h
  | x :: xs, _, 0, y, z, c, ⟨c1, d1, e, h1, h2⟩, h, hz => by
    simp at h; subst h
    exact ⟨[], c1, d1, by simpa using e, by simp, h1, ⟨c, d1, rfl, hz, h2⟩⟩
  | x :: xs, _, i + 1, y, z, c, ⟨c1, d1, e, h1, h2⟩, h, hz => by
    obtain ⟨x', d', r', e', hl, h3, h4⟩ := RdsOf_put hk h2 (i := i) (by simpa using h) hz
    subst e; subst e'
    exact ⟨c1 ++ x', d', r', by simp, by rw [List.length_append, hk _ _ h1, hl, Nat.add_mul]; omega, h3, ⟨c1, x' ++ (c ++ r'), by simp, h1, h4⟩⟩

theorem store_ok (hE : EnvOk P c) (hc : Core F S β O w) (hs : Slots (F.rp S β O w) (lkp σ) a.tmps) {T : TypeId} {x y : Operand} (ho : o.op = .store T x y) {te : TE} (ht : lkp c.te T = some te)
    {p : AV} (hp : gv c σ x 0 = some p) {l : Lf} (hl : one? p = some l) {q : AV} (hq : gv c σ y T = some q) {lk : Nat → Option AObj} (hlk : ∀ n o, lk n = some o → O n = some o) {u : Upd} (h : storeOp lk te l q some = some u)
    (hn : After F S β O (over u O) w (.one .undef) o a next) : o.wp P a w next Q := by
  have hT := hE.te T te ht
  have hyrel := gv_rel hE hs hq
  have hrun : ∀ b off w', a.eval x = .pointer (some ⟨b, off, none⟩) → (Instr.storeAt T (.pointer (some ⟨b, off, none⟩)) (a.eval y)).run P w = .ok () w' → (execOp a.eval o).run P w = .ok .skip w' := by
    intro b off w' hx hr
    simp [execOp, ho, hx, hr]
  unfold storeOp at h
  split at h
  · rename_i n off
    have hx := one_rel hl (by simp) (gv_rel hE hs hp)
    split at h
    · rename_i T' ls hn'
      simp only [Option.bind_eq_some_iff] at h
      obtain ⟨xs, hxs, h⟩ := h
      cases hsz : Nat.beq te.sz (xs.map Lf.size).sum with
      | false => rw [hsz] at h; cases h
      | true =>
        rw [hsz] at h
        simp only [cond_true, Option.bind_eq_some_iff, Option.some.injEq] at h
        obtain ⟨ls', hset, rfl⟩ := h
        have hO := hlk n _ hn'
        obtain ⟨b, arr, h1, h2, h3⟩ := hc.obj n _ hO
        have hv := leafs_rel hxs hyrel
        unfold RelL at hx
        simp only [Fr.rp] at hx h1 h2
        rw [hO] at hx; simp only at hx
        obtain ⟨b', hb', hx⟩ := hx
        rw [h1] at hb'; simp only [Option.some.injEq, Prod.mk.injEq, and_true] at hb'; subst hb'
        simp only [List.cons.injEq, and_true] at hx
        obtain ⟨x1, y1, z1, e1, l1, l2, h4⟩ := setCells_rel hset h3 hv
        have hvs : (a.eval y).cells.size = te.sz := by
          have := RelLs_len _ hv
          rw [beq_sz hsz]; simpa [sizes] using this
        have hr := store_run hT h2 hvs (RelLs_cells _ hv) e1 l1 l2
        obtain ⟨h5, h6⟩ := hc.write hO rfl (o' := .box T' ls') (.inr ⟨_, _, rfl⟩) rfl h1 (by intro e t xs hh; cases hh) (by intro e t xs hh; cases hh) (x1 ++ ((a.eval y).cells.toList ++ z1)).toArray (by
          intro q hle hb hw
          refine ⟨b, _, by rw [hb]; exact h1, by rw [hw]; exact setRow_heap w b arr _ T' (0, 0) h2, ?_⟩
          simpa using RelLs_le hle _ h4)
        refine wp_skip' (hrun _ _ _ hx hr) ?_
        rw [over_cons, over_nil] at hn
        exact hn _ _ _ _ h5 h6 (.inl rfl)
    · cases h
  · rename_i n i off
    have hx := one_rel hl (by simp) (gv_rel hE hs hp)
    split at h
    · rename_i e0 t xs hn'
      simp only [bindD, Option.bind_eq_some_iff] at h
      obtain ⟨y0, hy0, as, has, ms, hms, h⟩ := h
      cases hsz : (Nat.beq te.sz (ms.map Lf.size).sum && !memB (Lf.namesL as) n) with
      | false => rw [hsz] at h; cases h
      | true =>
        rw [hsz] at h
        simp only [Bool.and_eq_true, Bool.not_eq_true'] at hsz
        obtain ⟨hsz, hmem⟩ := hsz
        simp only [cond_true, Option.bind_eq_some_iff] at h
        obtain ⟨ls', hset, ⟨z0, r0⟩, hto, h⟩ := h
        simp only at h
        split at h
        · simp only [Option.some.injEq] at h
          subst h
          have hO := hlk n _ hn'
          obtain ⟨S1, hc1, le1, hrow1, hbox1, hop⟩ := freezes_opens hc hlk (Lf.namesL as)
          have hO1 := hrow1 n _ _ _ _ hO (memB_false hmem)
          have hv := leafs_rel has hyrel
          have hv1 := resolveL_rel hop _ hms hv
          unfold RelL at hx
          simp only [Fr.rp] at hx
          rw [hO] at hx; simp only at hx
          obtain ⟨b, o', hb, h0, h1, e⟩ := hx
          simp only [List.cons.injEq, and_true] at e
          rcases hc1.obj n _ hO1 with ⟨h3, _⟩ | ⟨b', o2, arr, cs, rest, h3, h4, h5, h6, h7, h8, h9, h10⟩
          · simp only [Fr.rp] at h3; rw [h3] at hb; cases hb
          · simp only [Fr.rp] at h3 h4 h5 h7 h8
            rw [h3] at hb; simp only [Option.some.injEq, Prod.mk.injEq] at hb
            obtain ⟨rfl, rfl⟩ := hb
            obtain ⟨_, _, hyn⟩ := ixAt_some hy0
            obtain ⟨x1, c1, z1, e1, l1, h11⟩ := RdsOf_at (fun _ _ => Rd_len t) h7 hyn
            obtain ⟨x2, y2, z2, e2, l2, l3, h12⟩ := setCells_rel (p := F.rp S1 β (over (freezes lk (Lf.namesL as)) O) w) hset (RelLs_leaves (p := F.rp S1 β (over (freezes lk (Lf.namesL as)) O) w) t h11) hv1
            obtain ⟨cz, dz, ez, hz, hdz⟩ := toTy_rel t hto h12
            simp only [RelLs] at hdz; subst hdz
            rw [List.append_nil] at ez
            rw [← ez] at hz
            obtain ⟨x3, d3, r3, e3, l4, h13, h14⟩ := RdsOf_put (fun _ _ => Rd_len t) h7 hyn hz
            have hd3 : d3.length = t.size := Rd_len t h13
            have hx13 : x3 = x1 ∧ d3 ++ r3 = c1 ++ z1 := by
              have := e3.symm.trans e1
              exact List.append_inj this (by rw [l4, l1])
            obtain ⟨rfl, e4⟩ := hx13
            have hc1l : c1.length = t.size := Rd_len t h11
            obtain ⟨rfl, rfl⟩ := List.append_inj e4 (by rw [hd3, hc1l])
            have hvs : (a.eval y).cells.size = te.sz := by
              have := RelLs_len _ hv1
              rw [beq_sz hsz]; simpa [sizes] using this
            have harr : arr.toList = (arr.toList.take o2 ++ (x3 ++ x2)) ++ (y2 ++ (z2 ++ (r3 ++ rest))) := by
              conv => lhs; rw [← List.take_append_drop o2 arr.toList]
              rw [h6, e1, e2]; simp
            have hr := store_run hT h4 hvs (RelLs_cells _ hv) harr (o := o2 + i.toNat * t.size + off) (by
              rw [List.length_append, List.length_append, l4, l2, List.length_take, Nat.min_eq_left (by simpa using h9)]; omega) l3
            obtain ⟨h15, h16⟩ := hc1.write hO1 rfl (o' := .row e0 t (setRow xs i z0) false) (.inr ⟨_, _, _, rfl, setRow_len _ _ _⟩) rfl h3 (by intro e t xs hh; cases hh) (by intro e t xs hh; cases hh)
              ((arr.toList.take o2 ++ (x3 ++ x2)) ++ ((a.eval y).cells.toList ++ (z2 ++ (r3 ++ rest)))).toArray (by
                intro q hle hb hw
                refine .inr ⟨b', o2, _, x3 ++ ((x2 ++ ((a.eval y).cells.toList ++ z2)) ++ r3), rest, by rw [hb]; exact h3, by rw [hw]; exact setRow_heap w b' arr _ e0 (0, 0) h4, by rw [setRow_len, hb]; exact h5, ?_, ?_, ?_, ?_, ?_⟩
                · have hl2 : (arr.toList.take o2).length = o2 := by rw [List.length_take, Nat.min_eq_left (by simpa using h9)]
                  simp only [List.append_assoc]
                  exact List.drop_left' hl2
                · exact RdsOf_mono (fun _ _ => Rd_mono hle.S (fun b i v hs => hle.cells b i v (.inl hs)) t) h14
                · rw [hb]
                  refine Nat.le_trans h8 ?_
                  have := congrArg List.length harr
                  simp only [Array.length_toList, List.length_append] at this
                  simp only [List.size_toArray, List.length_append, Array.length_toList] at this ⊢
                  have hyl : y2.length = (a.eval y).cells.size := by rw [l3, hvs]
                  omega
                · have := congrArg List.length harr
                  simp only [Array.length_toList, List.length_append] at this
                  simp only [List.size_toArray, List.length_append, Array.length_toList] at this ⊢
                  have hyl : y2.length = (a.eval y).cells.size := by rw [l3, hvs]
                  omega
                · intro v hv'
                  simp only [List.append_assoc, List.mem_append] at hv'
                  have hin : ∀ v, v ∈ arr.toList.take o2 ∨ v ∈ x3 ∨ v ∈ x2 ∨ v ∈ z2 ∨ v ∈ r3 ∨ v ∈ rest → v.oneCell' = true := by
                    intro v hv
                    refine h10 v ?_
                    rw [harr]
                    simp only [List.append_assoc, List.mem_append]
                    rcases hv with h | h | h | h | h | h <;> simp [h]
                  rcases hv' with h | h | h | h | h | h | h
                  · exact hin v (.inl h)
                  · exact hin v (.inr (.inl h))
                  · exact hin v (.inr (.inr (.inl h)))
                  · exact RelLs_cells _ hv v h
                  · exact hin v (.inr (.inr (.inr (.inl h))))
                  · exact hin v (.inr (.inr (.inr (.inr (.inl h)))))
                  · exact hin v (.inr (.inr (.inr (.inr (.inr h))))))
            refine wp_skip' (hrun _ _ _ e hr) ?_
            rw [over_cons] at hn
            exact hn _ _ _ _ h15 (le_trans_same le1 h16 (fun _ _ _ _ _ _ => rfl)) (.inl rfl)
        · cases h
    · rename_i T' ls hn'
      simp only [Option.bind_eq_some_iff] at h
      obtain ⟨qa, hqa, h⟩ := h
      cases hb : (scal qa.2.2.1.1 && Nat.beq te.sz 1) with
      | false => rw [hb] at h; cases h
      | true =>
        rw [hb, cond_true] at h
        rw [Bool.and_eq_true] at hb
        simp only [Option.bind_eq_some_iff] at h
        obtain ⟨as, has, ⟨z0, r0⟩, hto, h⟩ := h
        simp only at h
        split at h
        · simp only [bindD, Option.bind_eq_some_iff, Option.some.injEq] at h
          obtain ⟨y0, hy0, rfl⟩ := h
          have hO := hlk n _ hn'
          obtain ⟨b, arr, h1, h2, h3⟩ := hc.obj n _ hO
          unfold RelL at hx
          simp only [Fr.rp] at hx h1 h2
          rw [hO] at hx; simp only at hx
          obtain ⟨b', hb', hx⟩ := hx
          rw [h1] at hb'; simp only [Option.some.injEq, Prod.mk.injEq, and_true] at hb'; subst hb'
          simp only [List.cons.injEq, and_true] at hx
          have hv := leafs_rel has hyrel
          obtain ⟨cz, dz, ez, hz, hdz⟩ := toTy_rel _ hto hv
          simp only [RelLs] at hdz; subst hdz
          rw [List.append_nil] at ez
          rw [← ez] at hz
          have hsz1 : te.sz = 1 := Nat.eq_of_beq_eq_true hb.2
          have hvs : (a.eval y).cells.size = te.sz := by
            have := Rd_len _ hz
            rw [scal_size hb.1] at this
            rw [hsz1]; simpa using this
          obtain ⟨x1, y1, z1, e1, l1, h4, h5, h6, h7⟩ := arrAt_rel hqa h3
          obtain ⟨h0i, _, hyn⟩ := ixAt_some hy0
          rw [decide_eq_false (by omega), cond_false] at hx
          obtain ⟨x2, d2, r2, e2, l2, h8, h9⟩ := RdsOf_put (fun _ _ => Rd_len _) h6 hyn hz
          have harr : arr.toList = (x1 ++ x2) ++ (d2 ++ (r2 ++ z1)) := by rw [e1, e2]; simp
          have hr := store_run hT h2 hvs (RelLs_cells _ hv) harr (o := off + i.toNat) (by rw [List.length_append, l1, l2, scal_size hb.1, Nat.mul_one]) (by rw [Rd_len _ h8, scal_size hb.1, hsz1])
          obtain ⟨h15, h16⟩ := hc.write hO rfl (o' := .box T' (qa.1 ++ (.v (.arr qa.2.1 qa.2.2.1.1) (setRow qa.2.2.1.2 i z0) :: qa.2.2.2))) (.inr ⟨_, _, rfl⟩) rfl h1 (by intro e t xs hh; cases hh) (by intro e t xs hh; cases hh) ((x1 ++ x2) ++ ((a.eval y).cells.toList ++ (r2 ++ z1))).toArray (by
            intro q hle hb hw
            refine ⟨b, _, by rw [hb]; exact h1, by rw [hw]; exact setRow_heap w b arr _ T' (0, 0) h2, ?_⟩
            have h10 : RelLs (F.rp S β O w) (qa.1 ++ (.v (.arr qa.2.1 qa.2.2.1.1) (setRow qa.2.2.1.2 i z0) :: qa.2.2.2)) (x1 ++ ((x2 ++ ((a.eval y).cells.toList ++ r2)) ++ z1)) := by
              refine RelLs_append h4 ⟨_, _, rfl, ?_, h7⟩
              unfold RelL
              exact ⟨by rw [setRow_len]; exact h5, h9⟩
            simpa using RelLs_le hle _ h10)
          refine wp_skip' (hrun _ _ _ hx hr) ?_
          rw [over_cons, over_nil] at hn
          exact hn _ _ _ _ h15 h16 (.inl rfl)
        · cases h
    · cases h
  · cases h
end
end Go.Proofs.R

/- Each operation does in memory what the evaluator tells: arithmetic, addresses, parts. -/
namespace Go.Proofs.R
open Go
section
variable {P : Program} {c : Ctx}
variable {F : Fr} {S : CellSet} {β : Nat → Place} {O : Nat → Option AObj} {w : World} {a : Act} {σ : List (Nat × AV)} {o : Oper} {next : Act → World → Prop} {Q : Exit → Act → World → Prop}

theorem rel_int {p : RP} {k : IntKind} {n : Int} {v : Value} (h : RelAV p (.one (.v (.int k) n)) v) : v = .int k n := by
  rcases h with h | h
  · cases h
  · simpa [RelL, Rd] using h
theorem rel_bool {p : RP} {b : Bool} {v : Value} (h : RelAV p (.one (.v .bool b)) v) : v = .bool b := by
  rcases h with h | h
  · cases h
  · simpa [RelL, Rd] using h
theorem rel_str {p : RP} {s : ByteArray} {v : Value} (h : RelAV p (.one (.v .str s)) v) : v = .string s := by
  rcases h with h | h
  · cases h
  · simpa [RelL, Rd] using h
theorem of_int (p : RP) (k : IntKind) (n : Int) : RelAV p (.one (.v (.int k) n)) (.int k n) := .inr rfl
theorem of_bool (p : RP) (b : Bool) : RelAV p (.one (.v .bool b)) (.bool b) := .inr rfl
theorem of_str (p : RP) (s : ByteArray) : RelAV p (.one (.v .str s)) (.string s) := .inr rfl

theorem intBin_run {op : BinOp} {k : IntKind} {m n : Int} {l : Lf} (h : intBin op k m n some = some l) (t : TypeId) (w : World) (p : RP) :
    ∃ v, (binOp op t (.int k m) (.int k n)).run P w = .ok v w ∧ RelAV p (.one l) v := by
  cases op <;> simp only [intBin, Option.some.injEq] at h
  case shl => cases h
  case shr => cases h
  case quo =>
    unfold ifB at h
    cases hz : n == 0 with
    | true => rw [hz] at h; cases h
    | false =>
      rw [hz] at h; simp only [cond_false, Option.some.injEq] at h; subst h
      have : ¬ n = 0 := by simpa using hz
      exact ⟨.int k (k.wrap (m.tdiv n)), by simp [binOp, Op.intDiv, this], of_int _ _ _⟩
  case rem =>
    unfold ifB at h
    cases hz : n == 0 with
    | true => rw [hz] at h; cases h
    | false =>
      rw [hz] at h; simp only [cond_false, Option.some.injEq] at h; subst h
      have : ¬ n = 0 := by simpa using hz
      exact ⟨.int k (m.tmod n), by simp [binOp, Op.intDiv, this], of_int _ _ _⟩
  all_goals (subst h; first
    | (refine ⟨_, ?_, of_int _ _ _⟩; simp [binOp, Op.intArith]; done)
    | (refine ⟨_, ?_, of_int _ _ _⟩; simp [binOp, Op.intBits, bitsOp]; done)
    | (refine ⟨_, ?_, of_bool _ _⟩; simp [binOp, Op.intCmp]; done))

theorem strBin_run {op : BinOp} {x y : ByteArray} {l : Lf} (h : strBin op x y some = some l) (t : TypeId) (w : World) (p : RP) :
    ∃ v, (binOp op t (.string x) (.string y)).run P w = .ok v w ∧ RelAV p (.one l) v := by
  cases op <;> simp only [strBin, Option.some.injEq, reduceCtorEq] at h
  case add =>
    simp only [bindD, Option.bind_eq_some_iff, Option.some.injEq] at h
    obtain ⟨_, hg, rfl⟩ := h
    unfold grow at hg
    split at hg
    · rename_i hle
      unfold mostLen at hle
      have : ¬ (((x.size + y.size : Nat) : Int) > IntKind.i64.max) := by
        have : IntKind.i64.max = 9223372036854775807 := by decide
        rw [this]; omega
      exact ⟨.string (x ++ y), by simp [binOp, Op.stringOp]; omega, of_str _ _⟩
    · cases hg
  all_goals (subst h; exact ⟨_, by simp [binOp, Op.stringOp], of_bool _ _⟩)

theorem shift_run {op : BinOp} {k k' : IntKind} {m n : Int} (hn : ¬ n < 0) (t : TypeId) (w : World) :
    (op = .shl → (binOp op t (.int k m) (.int k' n)).run P w = .ok (.int k (shlInt k m n)) w) ∧ (op = .shr → (binOp op t (.int k m) (.int k' n)).run P w = .ok (.int k (shrInt k m n)) w) := by
  constructor <;> (rintro rfl; simp [binOp, Op.shift, hn, shlInt, shrInt])

/-! equality of structs -/
/-- a value of a type, out of its cells -/
def ValIs (te : TE) (cs : List Value) (v : Value) : Prop := if aggOf te then v = .agg cs.toArray else cs = [v]

theorem part_run {T : TypeId} {te : TE} (hT : TOk P c T te) {arr : Array Value} {x y z : List Value} {off : Nat} (h : arr.toList = x ++ (y ++ z)) (hx : x.length = off) (hy : y.length = te.sz) (w : World) :
    ∃ v, (part T arr off).run P w = .ok v w ∧ ValIs te y v := by
  cases ha : aggOf te with
  | true =>
    refine ⟨.agg y.toArray, ?_, by simp [ValIs, ha]⟩
    have : arr.extract off (off + te.sz) = y.toArray := by
      apply Array.toList_inj.1
      rw [Array.toList_extract, h]
      simp [List.extract, ← hx, ← hy]
    simp [part, isAgg_run hT, ha, sizeOf_run hT, this]
  | false =>
    have h1 := hT.one ha
    rw [h1] at hy
    match y, hy with
    | [v], _ =>
      refine ⟨v, ?_, by simp [ValIs, ha]⟩
      have : arr[off]? = some v := by
        rw [← Array.getElem?_toList, h, List.getElem?_append_right (by omega)]
        simp [hx]
      simp [part, isAgg_run hT, ha, this]

theorem eqT_run (hE : EnvOk P c) (p : RP) : ∀ (k d : Nat), k ≤ d → ∀ (T : TypeId) (xs ys : List Lf) (r : Bool), eqT c k T xs ys = some r → ∀ (cs ds : List Value) (te : TE) (u v : Value), lkp c.te T = some te →
    RelLs p xs cs → RelLs p ys ds → ValIs te cs u → ValIs te ds v → ∀ w, (Op.equalIn d T u v).run P w = .ok r w
  | 0, _, _, _, _, _, _, h, _, _, _, _, _, _, _, _, _, _, _ => by simp [eqT] at h
  | k + 1, 0, hd, _, _, _, _, _, _, _, _, _, _, _, _, _, _, _, _ => by omega
  | k + 1, d + 1, hd, T, xs, ys, r, h, cs, ds, te, u, v, ht, hx, hy, hu, hv, w => by
    have hT := hE.te T te ht
    simp only [eqT, ht, Option.bind_some] at h
    have hun := hT.under
    cases hdd : te.d <;> rw [hdd] at h hun <;> simp only at h hun
    case int k0 =>
      split at h
      · rename_i i x j y
        split at h
        · rename_i e; subst e
          cases h
          obtain ⟨c1, c2, rfl, h1, h2⟩ := hx
          obtain ⟨d1, d2, rfl, h3, h4⟩ := hy
          simp only [RelL, Rd] at h1 h3
          simp only [RelLs] at h2 h4
          subst h1; subst h2; subst h3; subst h4
          have ha : aggOf te = false := by simp [aggOf, hdd]
          simp only [ValIs, ha, Bool.false_eq_true, if_false, List.append_nil, List.cons.injEq, and_true] at hu hv
          subst hu; subst hv
          exact run_equalIn_int w d T i k0 x y hun
        · cases h
      · cases h
    case bool =>
      split at h
      · rename_i x y
        cases h
        obtain ⟨c1, c2, rfl, h1, h2⟩ := hx
        obtain ⟨d1, d2, rfl, h3, h4⟩ := hy
        simp only [RelL, Rd] at h1 h3
        simp only [RelLs] at h2 h4
        subst h1; subst h2; subst h3; subst h4
        have ha : aggOf te = false := by simp [aggOf, hdd]
        simp only [ValIs, ha, Bool.false_eq_true, if_false, List.append_nil, List.cons.injEq, and_true] at hu hv
        subst hu; subst hv
        exact run_equalIn_bool' w d T x y hun
      · cases h
    case str =>
      split at h
      · rename_i x y
        cases h
        obtain ⟨c1, c2, rfl, h1, h2⟩ := hx
        obtain ⟨d1, d2, rfl, h3, h4⟩ := hy
        simp only [RelL, Rd] at h1 h3
        simp only [RelLs] at h2 h4
        subst h1; subst h2; subst h3; subst h4
        have ha : aggOf te = false := by simp [aggOf, hdd]
        simp only [ValIs, ha, Bool.false_eq_true, if_false, List.append_nil, List.cons.injEq, and_true] at hu hv
        subst hu; subst hv
        exact run_equalIn_string w d T x y hun
      · cases h
    case struct fs =>
      obtain ⟨fields, hu1, hf, ho, hfs, hst, _⟩ := hun
      have ha : aggOf te = true := by simp [aggOf, hdd]
      simp only [ValIs, ha, if_true] at hu hv
      subst hu; subst hv
      have hfo : P.fieldsOf T = fields := by unfold Program.fieldsOf; rw [hu1]
      rw [run_equalIn_struct w d T cs.toArray ds.toArray (by rw [hfo]; exact hu1) hst, hfo]
      have key : ∀ (fl : List Field) (r : Bool), (∀ f ∈ fl, f ∈ fields.toList) → eqFs c (eqT c k) xs ys (fl.map (·.type)) (fl.map (·.offset)) = some r →
          (Op.eqFields d cs.toArray ds.toArray fl).run P w = .ok r w := by
        intro fl
        induction fl with
        | nil => intro r _ h; simp only [List.map_nil, eqFs, Option.some.injEq] at h; subst h; simp [Op.eqFields]
        | cons f fl ih =>
          intro r hmem h
          simp only [List.map_cons, eqFs, Option.bind_eq_some_iff] at h
          obtain ⟨fe, hfe, a1, ha1, b1, hb1, r1, hr1, h⟩ := h
          obtain ⟨j, _, _, hnm⟩ := hfs f (hmem f List.mem_cons_self)
          obtain ⟨x1, y1, z1, e1, l1, l2, h5⟩ := subCells_rel ha1 hx
          obtain ⟨x2, y2, z2, e2, l3, l4, h6⟩ := subCells_rel hb1 hy
          have hTf := hE.te f.type fe hfe
          obtain ⟨va, hva, hva2⟩ := part_run hTf (arr := cs.toArray) (by simpa using e1) l1 l2 w
          obtain ⟨vb, hvb, hvb2⟩ := part_run hTf (arr := ds.toArray) (by simpa using e2) l3 l4 w
          have heq := eqT_run hE p k d (by omega) f.type a1 b1 r1 hr1 y1 y2 fe va vb hfe h5 h6 hva2 hvb2 w
          have hrest : (Op.eqFields d cs.toArray ds.toArray (f :: fl)).run P w = (if (!r1) = true then Result.ok false w else (Op.eqFields d cs.toArray ds.toArray fl).run P w) := by
            simp only [Op.eqFields, if_pos hnm, Sem.run_bind, hva, hvb, heq, Result.andThen_ok, Sem.run_ite, Sem.run_pure]
          rw [hrest]
          split at h
          · rename_i e3 e4
            have : fl = [] := by simpa using e3
            subst this
            cases h
            cases r <;> simp [Op.eqFields]
          · simp only [Option.bind_eq_some_iff, Option.some.injEq] at h
            obtain ⟨q, hq, rfl⟩ := h
            rw [ih q (fun g hg => hmem g (List.mem_cons_of_mem _ hg)) hq]
            cases r1 <;> simp
      exact key fields.toList r (fun _ h => h) (by rw [hf, ho]; exact h)
    all_goals cases h

theorem eqAV_run (hE : EnvOk P c) {p : RP} {T : TypeId} {x y : AV} {r : Bool} (h : eqAV c T x y = some r) {u v : Value} (hu : RelAV p x u) (hv : RelAV p y v) (w : World) :
    (∀ X Y : Operand, (eqGuard .eql T X Y u v).run P w = .ok () w ∧ (eqGuard .neq T X Y u v).run P w = .ok () w) ∧ (binOp .eql T u v).run P w = .ok (.bool r) w ∧ (binOp .neq T u v).run P w = .ok (.bool (!r)) w := by
  simp only [eqAV, Option.bind_eq_some_iff] at h
  obtain ⟨te, ht, h⟩ := h
  have hT := hE.te T te ht
  have hun := hT.under
  split at h
  · rename_i fs xs ys hdd
    rw [hdd] at hun; simp only at hun
    obtain ⟨fields, hu1, hf, ho, hfs, hst, hgd⟩ := hun
    obtain ⟨cs, rfl, h1⟩ := hu
    obtain ⟨ds, rfl, h2⟩ := hv
    have ha : aggOf te = true := by simp [aggOf, hdd]
    have := eqT_run hE p 8 10000 (by omega) T xs ys r h cs.toList ds.toList te (.agg cs) (.agg ds) ht h1 h2 (by simp [ValIs, ha]) (by simp [ValIs, ha]) w
    refine ⟨fun X Y => ⟨run_eqGuard_agg w .eql T X Y cs ds hgd, run_eqGuard_agg w .neq T X Y cs ds hgd⟩, ?_, ?_⟩
    · rw [run_eql_struct, this]; rfl
    · rw [run_neq_struct, this]; rfl
  · rename_i x y hdd
    rw [hdd] at hun; simp only at hun
    obtain rfl := rel_bool hu; obtain rfl := rel_bool hv
    cases h
    have := run_equalIn_bool' (P := P) w 9999 T x y hun
    refine ⟨fun X Y => ⟨by simp [eqGuard], by simp [eqGuard]⟩, ?_, ?_⟩
    · simp [binOp, Op.equal, Op.maxDepth, this]
    · simp [binOp, Op.equal, Op.maxDepth, this]
  · cases h

theorem bin_ok (hE : EnvOk P c) (hc : Core F S β O w) (hs : Slots (F.rp S β O w) (lkp σ) a.tmps) {op : BinOp} {T U : TypeId} {X Y : Operand} (ho : o.op = .binOp op T X Y U) {x y : AV} (hx : gv c σ X T = some x) (hy : gv c σ Y U = some y)
    {l : Lf} (h : binL c op T x y some = some l) (hn : After F S β O (over [] O) w (.one l) o a next) : o.wp P a w next Q := by
  have hu := gv_rel hE hs hx
  have hv := gv_rel hE hs hy
  have hgo : ∀ r, (eqGuard op T X Y (a.eval X) (a.eval Y)).run P w = .ok () w → (binOp op T (a.eval X) (a.eval Y)).run P w = .ok r w → RelAV (F.rp S β O w) (.one l) r → o.wp P a w next Q := by
    intro r h1 h2 h3
    refine pure_ok hc (v := r) ?_ h3 hn
    simp [execOp, ho, h1, h2]
  unfold binL at h
  split at h
  · rename_i k m k' n
    have e1 := rel_int hu; have e2 := rel_int hv
    rw [e1, e2] at hgo
    have hgd : (eqGuard op T X Y (.int k m) (.int k' n)).run P w = .ok () w := by cases op <;> simp [eqGuard]
    split at h
    · unfold ifB at h
      cases hz : decide (n < 0) with
      | true => rw [hz] at h; cases h
      | false =>
        rw [hz] at h; simp only [cond_false, Option.some.injEq] at h; subst h
        exact hgo _ hgd ((shift_run (of_decide_eq_false hz) T w).1 rfl) (of_int _ _ _)
    · unfold ifB at h
      cases hz : decide (n < 0) with
      | true => rw [hz] at h; cases h
      | false =>
        rw [hz] at h; simp only [cond_false, Option.some.injEq] at h; subst h
        exact hgo _ hgd ((shift_run (of_decide_eq_false hz) T w).2 rfl) (of_int _ _ _)
    · split at h
      · rename_i hk; subst hk
        obtain ⟨r, h1, h2⟩ := intBin_run (P := P) h T w (F.rp S β O w)
        exact hgo r hgd h1 h2
      · cases h
  · rename_i x y
    have e1 := rel_str hu; have e2 := rel_str hv
    rw [e1, e2] at hgo
    have hgd : (eqGuard op T X Y (.string x) (.string y)).run P w = .ok () w := by cases op <;> simp [eqGuard]
    obtain ⟨r, h1, h2⟩ := strBin_run (P := P) h T w (F.rp S β O w)
    exact hgo r hgd h1 h2
  · split at h
    · simp only [Option.bind_eq_some_iff, Option.some.injEq] at h
      obtain ⟨r, hr, rfl⟩ := h
      obtain ⟨h1, h2, _⟩ := eqAV_run hE hr hu hv w
      exact hgo _ (h1 X Y).1 h2 (of_bool _ _)
    · simp only [Option.bind_eq_some_iff, Option.some.injEq] at h
      obtain ⟨r, hr, rfl⟩ := h
      obtain ⟨h1, _, h2⟩ := eqAV_run hE hr hu hv w
      exact hgo _ (h1 X Y).2 h2 (of_bool _ _)
    · cases h

theorem un_ok (hE : EnvOk P c) (hc : Core F S β O w) (hs : Slots (F.rp S β O w) (lkp σ) a.tmps) {op : UnOp} {T : TypeId} {X : Operand} (ho : o.op = .unOp op T X) {x : AV} (hx : gv c σ X 0 = some x)
    {l : Lf} (h : unL op x some = some l) (hn : After F S β O (over [] O) w (.one l) o a next) : o.wp P a w next Q := by
  have hu := gv_rel hE hs hx
  unfold unL at h
  split at h
  · rename_i k n
    cases h
    exact pure_ok hc (by simp [execOp, ho, rel_int hu, Op.unary, Op.intArith]) (of_int _ _ _) hn
  · rename_i k n
    cases h
    exact pure_ok hc (by simp [execOp, ho, rel_int hu, Op.unary, Op.intBits]; rfl) (of_int _ _ _) hn
  · rename_i b
    cases h
    exact pure_ok hc (by simp [execOp, ho, rel_bool hu, Op.unary]) (of_bool _ _) hn
  · cases h
end
end Go.Proofs.R

/- Each operation does in memory what the evaluator tells: addresses, parts, lengths. -/
namespace Go.Proofs.R
open Go
section
variable {P : Program} {c : Ctx}
variable {F : Fr} {S : CellSet} {β : Nat → Place} {O : Nat → Option AObj} {w : World} {a : Act} {σ : List (Nat × AV)} {o : Oper} {next : Act → World → Prop} {Q : Exit → Act → World → Prop}

theorem conv_ok (hE : EnvOk P c) (hc : Core F S β O w) (hs : Slots (F.rp S β O w) (lkp σ) a.tmps) {s t : TypeId} {X : Operand} (ho : o.op = .convert s t X) {es et : TE} (h1 : lkp c.te s = some es) (h2 : lkp c.te t = some et)
    {v : AV} (hv : gv c σ X s = some v) {av : AV}
    (h : (∃ k0 k k1 n, es.d = .int k0 ∧ et.d = .int k ∧ v = .one (.v (.int k1) n) ∧ av = .one (.v (.int k) (k.wrap n))) ∨ (∃ n, es.d = .str ∧ et.d = .str ∧ v = .one (.v .str n) ∧ av = .one (.v .str n)))
    (hn : After F S β O (over [] O) w av o a next) : o.wp P a w next Q := by
  have hu := gv_rel hE hs hv
  have hs1 := (hE.te s es h1).under
  have ht1 := (hE.te t et h2).under
  rcases h with ⟨k0, k, k1, n, e1, e2, rfl, rfl⟩ | ⟨n, e1, e2, rfl, rfl⟩
  · rw [e1] at hs1; rw [e2] at ht1; simp only at hs1 ht1
    refine pure_ok hc (v := .int k (k.wrap n)) ?_ (of_int _ _ _) hn
    simp [execOp, ho, rel_int hu, convert, run_underlying hs1, run_underlying ht1, Conv.intToInt]
  · rw [e1] at hs1; rw [e2] at ht1; simp only at hs1 ht1
    refine pure_ok hc (v := .string n) ?_ (of_str _ _) hn
    simp [execOp, ho, rel_str hu, convert, run_underlying hs1, run_underlying ht1]

theorem ref_val {p : RP} {n off : Nat} {v : Value} (h : RelL p (.ref n off) [v]) (hl : ∃ T ls, p.O n = some (.box T ls)) : ∃ b, (p.β n).1 = some (b, 0) ∧ v = .pointer (some ⟨b, off, none⟩) := by
  obtain ⟨T, ls, hO⟩ := hl
  unfold RelL at h; rw [hO] at h; simp only at h
  obtain ⟨b, h1, h2⟩ := h
  exact ⟨b, h1, by simpa using h2⟩

theorem fieldAt_run (hE : EnvOk P c) {T : TypeId} {te : TE} (ht : lkp c.te T = some te) {f off : Nat} (hf : te.offs[f]? = some off) {fs : List TypeId} (hd : te.d = .struct fs) (b o : Nat) (w : World) :
    (Instr.fieldAt T (.pointer (some ⟨b, o, none⟩)) f).run P w = .ok (.pointer (some ⟨b, o + off, none⟩)) w := by
  have hu := (hE.te T te ht).under
  rw [hd] at hu; simp only at hu
  obtain ⟨fields, hu1, _, ho, hfs, _⟩ := hu
  have hm : (fields.toList.map (·.offset))[f]? = some off := by rw [ho]; exact hf
  rw [List.getElem?_map] at hm
  simp only [Option.map_eq_some_iff] at hm
  obtain ⟨fl, hfl, rfl⟩ := hm
  have hfl' : fields[f]? = some fl := by simpa using hfl
  obtain ⟨j, hj, hj0, _⟩ := hfs fl (List.mem_of_getElem? hfl)
  have hsz : (sizeOf fl.type).run P w = .ok j.size w := by simp [sizeOf, typeInfo, hj]
  simp [Instr.fieldAt, run_underlying hu1, hfl', Instr.sureAddr, fieldPlace, hsz, hj0, add_at]

/-- an address that is alive -/
theorem alive_addr {p : RP} {lk : Nat → Option AObj} (hlk : ∀ n o, lk n = some o → p.O n = some o) {l l' : Lf} {k : Nat} (hm : moveAddr l k = some l') (ha : aliveB lk l = true) {v : Value} (h : RelL p l [v]) :
    ∃ b o, v = .pointer (some ⟨b, o, none⟩) ∧ RelL p l' [.pointer (some ⟨b, o + k, none⟩)] := by
  unfold moveAddr at hm
  split at hm
  · rename_i n off
    cases hm
    simp only [aliveB] at ha
    split at ha
    · rename_i T ls hl
      have hO := hlk n _ hl
      obtain ⟨b, hb, rfl⟩ := ref_val h ⟨T, ls, hO⟩
      refine ⟨b, off, rfl, ?_⟩
      unfold RelL; rw [hO]; exact ⟨b, hb, rfl⟩
    · cases ha
  · rename_i n i off
    cases hm
    simp only [aliveB] at ha
    split at ha
    · rename_i e t xs fz hl
      have hO := hlk n _ hl
      unfold RelL at h; rw [hO] at h; simp only at h
      obtain ⟨b, o, hb, h0, h1, hv⟩ := h
      simp only [List.cons.injEq, and_true] at hv
      refine ⟨b, _, hv, ?_⟩
      unfold RelL; rw [hO]; exact ⟨b, o, hb, h0, h1, by simp [Nat.add_assoc]⟩
    · cases ha
  · rename_i ls off
    cases hm
    obtain ⟨b, o, ds, hv, h1, h2⟩ := h
    simp only [List.cons.injEq, and_true] at hv
    exact ⟨b, _, hv, b, o, ds, by simp [Nat.add_assoc], h1, h2⟩
  · cases hm

theorem moveAddr_undef {l l' : Lf} {k : Nat} (h : moveAddr l k = some l') : l ≠ .undef := by
  rintro rfl; simp [moveAddr] at h

theorem fieldAddr_ok (hE : EnvOk P c) (hc : Core F S β O w) (hs : Slots (F.rp S β O w) (lkp σ) a.tmps) {T : TypeId} {X : Operand} {f : Nat} (ho : o.op = .fieldAddr T X f) {te : TE} (ht : lkp c.te T = some te) {fs : List TypeId} (hd : te.d = .struct fs)
    {v : AV} (hv : gv c σ X 0 = some v) {l : Lf} (hl : one? v = some l) {off : Nat} (hf : te.offs[f]? = some off) {l' : Lf} (hm : moveAddr l off = some l')
    {lk : Nat → Option AObj} (hlk : ∀ n o, lk n = some o → O n = some o) (ha : aliveB lk l = true)
    (hn : After F S β O (over [] O) w (.one l') o a next) : o.wp P a w next Q := by
  have hu := one_rel hl (moveAddr_undef hm) (gv_rel hE hs hv)
  obtain ⟨b, o1, hx, hr⟩ := alive_addr (p := F.rp S β O w) hlk hm ha hu
  refine pure_ok hc (v := .pointer (some ⟨b, o1 + off, none⟩)) (av := .one l') ?_ (.inr hr) hn
  simp [execOp, ho, hx, fieldAt_run hE ht hf hd]

theorem nilCheck_ok (hE : EnvOk P c) (hc : Core F S β O w) (hs : Slots (F.rp S β O w) (lkp σ) a.tmps) {X : Operand} (ho : o.op = .nilCheck X) {l : Lf} (hv : gv c σ X 0 = some (.one l)) (hu : l ≠ .undef)
    (hk : (∃ b o, a.eval X = .pointer (some ⟨b, o, none⟩)) ∨ ∃ f vs, a.eval X = .func (.func f) #[] vs)
    (hn : After F S β O (over [] O) w (.one l) o a next) : o.wp P a w next Q := by
  have hr := gv_rel hE hs hv
  refine pure_ok hc (v := a.eval X) ?_ hr hn
  rcases hk with ⟨b, o1, h⟩ | ⟨f, vs, h⟩ <;> simp [execOp, ho, h]

theorem field_ok (hE : EnvOk P c) (hc : Core F S β O w) (hs : Slots (F.rp S β O w) (lkp σ) a.tmps) {T : TypeId} {X : Operand} {f : Nat} (ho : o.op = .field T X f) {te : TE} (ht : lkp c.te T = some te) {fs : List TypeId} (hd : te.d = .struct fs)
    {ft : TypeId} (hft : fs[f]? = some ft) {fe : TE} (hfe : lkp c.te ft = some fe) {off : Nat} (hf : te.offs[f]? = some off) {ls : List Lf} (hv : gv c σ X T = some (.agg ls)) {q : List Lf} (hq : subCells ls off fe.sz = some q) {av : AV} (hav : valOf fe q = some av)
    (hn : After F S β O (over [] O) w av o a next) : o.wp P a w next Q := by
  obtain ⟨cs, hx, hr⟩ := gv_rel hE hs hv
  obtain ⟨x1, y1, z1, e1, l1, l2, h4⟩ := subCells_rel hq hr
  have hFe := hE.te ft fe hfe
  have hu := (hE.te T te ht).under
  rw [hd] at hu; simp only at hu
  obtain ⟨fields, hu1, hty, hof, _⟩ := hu
  have hm1 : (fields.toList.map (·.type))[f]? = some ft := by rw [hty]; exact hft
  have hm2 : (fields.toList.map (·.offset))[f]? = some off := by rw [hof]; exact hf
  rw [List.getElem?_map] at hm1 hm2
  simp only [Option.map_eq_some_iff] at hm1 hm2
  obtain ⟨fl, hfl, rfl⟩ := hm1
  obtain ⟨fl', hfl', rfl⟩ := hm2
  rw [hfl] at hfl'; cases hfl'
  have hfl2 : fields[f]? = some fl := by simpa using hfl
  obtain ⟨v, hv1, hv2⟩ := part_run hFe (arr := cs) e1 l1 l2 w
  refine pure_ok hc (v := v) (av := av) ?_ ?_ hn
  · simp [execOp, ho, hx, Instr.field, run_underlying hu1, hfl2, asAgg, hv1]
  · unfold valOf at hav
    unfold ValIs at hv2
    cases hag : aggOf fe with
    | true =>
      rw [hag] at hav hv2; simp only [cond_true, Option.some.injEq, if_true] at hav hv2
      subst hav; subst hv2
      exact ⟨_, rfl, by simpa using h4⟩
    | false =>
      rw [hag] at hav hv2; simp only [cond_false, Bool.false_eq_true, if_false] at hav hv2
      split at hav
      · cases hav
        subst hv2
        obtain ⟨c1, c2, e, h5, h6⟩ := h4
        simp only [RelLs] at h6; subst h6
        simp only [List.append_nil] at e; subst e
        exact .inr h5
      · cases hav

theorem eltOk_spec (hE : EnvOk P c) {T : TypeId} {t : Ty} (h : eltOk c T t = true) : ∃ e ee, P.underlying T = some (.slice e) ∧ lkp c.te e = some ee ∧ ee.sz = t.size ∧ 0 < t.size ∧ (∃ te, lkp c.te T = some te ∧ te.d = .slice e) := by
  unfold eltOk at h
  split at h
  · rename_i te ht
    split at h
    · rename_i e hd
      split at h
      · rename_i ee hee
        simp only [Bool.and_eq_true] at h
        have h1 := Nat.eq_of_beq_eq_true h.1
        have h2 : 0 < ee.sz := by simpa using h.2
        have := (hE.te T te ht).under
        rw [hd] at this
        exact ⟨e, ee, this, hee, h1, h1 ▸ h2, te, ht, hd⟩
      · cases h
    · cases h
  · cases h

theorem strOk_spec (hE : EnvOk P c) {T : TypeId} (h : strOk c T = true) : P.underlying T = some .string := by
  unfold strOk at h
  split at h
  · rename_i te ht
    split at h
    · rename_i hd
      have := (hE.te T te ht).under
      rw [hd] at this; exact this
    · cases h
  · cases h
theorem slOk_spec (hE : EnvOk P c) {T : TypeId} (h : slOk c T = true) : ∃ e, P.underlying T = some (.slice e) := by
  unfold slOk at h
  split at h
  · rename_i te ht
    split at h
    · rename_i e hd
      have := (hE.te T te ht).under
      rw [hd] at this; exact ⟨e, this⟩
    · cases h
  · cases h

theorem indexAddr_ok (hE : EnvOk P c) (hc : Core F S β O w) (hs : Slots (F.rp S β O w) (lkp σ) a.tmps) {T : TypeId} {X Y : Operand} (ho : o.op = .indexAddr T X Y)
    {v : AV} (hv : gv c σ X 0 = some v) {l : Lf} (hl : one? v = some l) {b : AV} (hb : gv c σ Y 0 = some b) {i : Int} (hi : intOf? b = some i)
    {lk : Nat → Option AObj} (hlk : ∀ n o, lk n = some o → O n = some o) {av : AV} {u : Upd} (h : indexAddrOp c lk T l i two = some (av, u))
    (hn : After F S β O (over u O) w av o a next) : o.wp P a w next Q := by
  obtain ⟨k, hY⟩ := int_rel hi (gv_rel hE hs hb)
  unfold indexAddrOp at h
  split at h
  · rename_i t xs
    cases he : eltOk c T t with
    | false => rw [he] at h; cases h
    | true =>
      rw [he] at h
      simp only [cond_true, bindD, Option.bind_eq_some_iff, two, Option.some.injEq, Prod.mk.injEq] at h
      obtain ⟨y, hy, rfl, rfl⟩ := h
      obtain ⟨e, ee, hu1, hee, hsz, hpos, _⟩ := eltOk_spec hE he
      have hx := one_rel hl (by simp) (gv_rel hE hs hv)
      obtain ⟨A, cp, hx, _, hx2⟩ := hx
      simp only [List.cons.injEq, and_true] at hx
      obtain ⟨h0, h1, hyn⟩ := ixAt_some hy
      rcases hx2 with rfl | ⟨b0, o0, ds, rfl, h2, h3⟩
      · simp at hyn
      · obtain ⟨x1, c1, z1, e1, l1, h4⟩ := RdsOf_at (fun _ _ => Rd_len t) h2 hyn
        have hsr := sizeOf_run (hE.te e ee hee) w
        refine pure_ok hc (v := .pointer (some ⟨b0, o0 + i.toNat * t.size, none⟩)) (av := .one (.pref (leaves t y) 0)) ?_ (.inr ?_) hn
        · simp [execOp, ho, hx, hY, Instr.indexAt, asIntOf, run_underlying hu1, h0, h1, hsr, hsz, add_at]
        · refine ⟨b0, o0 + i.toNat * t.size, c1, rfl, RelLs_leaves (p := F.rp S β O w) t h4, ?_⟩
          rw [e1] at h3
          have h5 := (At_append.1 (At_append.1 h3).2).1
          rw [l1] at h5
          exact At_mono (fun _ _ hs => .inr hs) (fun _ _ _ _ hh => hh) h5
  · rename_i n
    split at h
    · rename_i e0 t xs fz hln
      cases he : eltOk c T t with
      | false => rw [he] at h; cases h
      | true =>
        rw [he] at h
        simp only [cond_true, bindD, Option.bind_eq_some_iff, two, Option.some.injEq, Prod.mk.injEq] at h
        obtain ⟨y, hy, rfl, rfl⟩ := h
        obtain ⟨e, ee, hu1, hee, hsz, hpos, _⟩ := eltOk_spec hE he
        have hx := one_rel hl (by simp) (gv_rel hE hs hv)
        have hO := hlk n _ hln
        unfold RelL at hx; simp only [Fr.rp] at hx; rw [hO] at hx; simp only [List.cons.injEq, and_true] at hx
        obtain ⟨h0, h1, hyn⟩ := ixAt_some hy
        rcases hc.obj n _ hO with ⟨_, rfl⟩ | ⟨b0, o0, arr, cs, rest, h3, _⟩
        · simp at hyn
        · simp only [Fr.rp] at h3
          have hsr := sizeOf_run (hE.te e ee hee) w
          refine pure_ok hc (v := .pointer (some ⟨b0, o0 + i.toNat * t.size, none⟩)) (av := .one (.eref n i 0)) ?_ (.inr ?_) hn
          · rw [h3] at hx
            simp [execOp, ho, hx, hY, addrOf, Instr.indexAt, asIntOf, run_underlying hu1, h0, h1, hsr, hsz, add_at]
          · unfold RelL; simp only [Fr.rp]; rw [hO]
            exact ⟨b0, o0, h3, h0, h1, by simp⟩
    · cases h
  · rename_i n j off
    simp only [Option.bind_eq_some_iff] at h
    obtain ⟨te, hte, h⟩ := h
    split at h
    · rename_i e hd
      simp only [Option.bind_eq_some_iff] at h
      obtain ⟨ee, hee, h⟩ := h
      cases hb : (decide (j < 0) && Nat.beq ee.sz 1 && decide (0 ≤ i) && decide (i < -j)) with
      | false => rw [hb] at h; cases h
      | true =>
        rw [hb, cond_true] at h
        simp only [Bool.and_eq_true] at hb
        obtain ⟨⟨⟨b1, b2⟩, b3⟩, b4⟩ := hb
        have b1 := of_decide_eq_true b1
        have b3 := of_decide_eq_true b3
        have b4 := of_decide_eq_true b4
        have hsz1 : ee.sz = 1 := Nat.eq_of_beq_eq_true b2
        split at h
        · rename_i T' ls hln
          simp only [two, Option.some.injEq, Prod.mk.injEq] at h
          obtain ⟨rfl, rfl⟩ := h
          have hO := hlk n _ hln
          have hx := one_rel hl (by simp) (gv_rel hE hs hv)
          unfold RelL at hx
          simp only [Fr.rp] at hx
          rw [hO] at hx; simp only at hx
          obtain ⟨b', hb', hx⟩ := hx
          rw [decide_eq_true b1, cond_true] at hx
          simp only [List.cons.injEq, and_true] at hx
          have hu := (hE.te T te hte).under
          rw [hd] at hu; simp only at hu
          have hsr := sizeOf_run (hE.te e ee hee) w
          obtain ⟨N, hN⟩ : ∃ N, N = (-j).toNat := ⟨_, rfl⟩
          have hlt : i < (N : Int) := by omega
          rw [← hN] at hx
          clear hN
          refine pure_ok hc (v := .pointer (some ⟨b', off + i.toNat, none⟩)) (av := .one (.ref n (off + i.toNat))) ?_ (.inr ?_) hn
          · simp [execOp, ho, hx, hY, Instr.indexAt, asIntOf, run_underlying hu, b3, hlt, hsr, hsz1, add_at]
          · unfold RelL; simp only [Fr.rp]; rw [hO]
            exact ⟨b', hb', rfl⟩
        · cases h
    · cases h
  · rename_i n off
    split at h
    · rename_i T' ls hln
      simp only [Option.bind_eq_some_iff] at h
      obtain ⟨te, hte, h⟩ := h
      split at h
      · rename_i m e hd
        simp only [Option.bind_eq_some_iff] at h
        obtain ⟨ee, hee, q, hq, h⟩ := h
        cases hb : (Nat.beq ee.sz 1 && Nat.beq m q.2.1 && scal q.2.2.1.1) with
        | false => rw [hb] at h; cases h
        | true =>
          rw [hb, cond_true] at h
          simp only [Bool.and_eq_true] at hb
          obtain ⟨⟨b1, b2⟩, b3⟩ := hb
          simp only [bindD, Option.bind_eq_some_iff, two, Option.some.injEq, Prod.mk.injEq] at h
          obtain ⟨y, hy, rfl, rfl⟩ := h
          have hsz1 : ee.sz = 1 := Nat.eq_of_beq_eq_true b1
          have hm : m = q.2.1 := Nat.eq_of_beq_eq_true b2
          have hO := hlk n _ hln
          have hx := one_rel hl (by simp) (gv_rel hE hs hv)
          obtain ⟨b, arr, h1, h2, h3⟩ := hc.obj n _ hO
          obtain ⟨x1, y1, z1, e1, l1, _, h5, _, _⟩ := arrAt_rel hq h3
          obtain ⟨h0, h6, _⟩ := ixAt_some hy
          unfold RelL at hx
          simp only [Fr.rp] at hx h1 h2
          rw [hO] at hx; simp only at hx
          obtain ⟨b', hb', hx⟩ := hx
          rw [h1] at hb'; simp only [Option.some.injEq, Prod.mk.injEq, and_true] at hb'; subst hb'
          simp only [List.cons.injEq, and_true] at hx
          have hu := (hE.te T te hte).under
          rw [hd] at hu; simp only at hu
          have hsr := sizeOf_run (hE.te e ee hee) w
          have hlt : i < (m : Int) := by rw [hm, ← h5]; exact h6
          refine pure_ok hc (v := .pointer (some ⟨b, off + i.toNat, none⟩)) (av := .one (.eref n i off)) ?_ (.inr ?_) hn
          · simp [execOp, ho, hx, hY, Instr.indexAt, asIntOf, run_underlying hu, Instr.sureAddr, h0, hlt, hsr, hsz1, add_at]
          · unfold RelL; simp only [Fr.rp]; rw [hO]
            exact ⟨b, h1, by rw [decide_eq_false (by omega)]; rfl⟩
      · cases h
    · cases h
  · cases h

theorem index_ok (hE : EnvOk P c) (hc : Core F S β O w) (hs : Slots (F.rp S β O w) (lkp σ) a.tmps) {T : TypeId} {X Y : Operand} (ho : o.op = .index T X Y) (hst : strOk c T = true)
    {s : ByteArray} (hv : gv c σ X 0 = some (.one (.v .str s))) {b : AV} (hb : gv c σ Y 0 = some b) {i : Int} (hi : intOf? b = some i) {y : Int} (hy : strAt s i = some y)
    (hn : After F S β O (over [] O) w (.one (.v (.int .u8) y)) o a next) : o.wp P a w next Q := by
  obtain ⟨k, hY⟩ := int_rel hi (gv_rel hE hs hb)
  have hx := rel_str (gv_rel hE hs hv)
  have hu := strOk_spec hE hst
  unfold strAt at hy
  split at hy
  · rename_i h0
    simp only [Option.map_eq_some_iff] at hy
    obtain ⟨z, hz, rfl⟩ := hy
    refine pure_ok hc (v := .int .u8 z.toNat) ?_ (of_int _ _ _) hn
    simp [execOp, ho, hx, hY, Instr.index, asIntOf, run_underlying hu, h0, hz]
  · cases hy

theorem extract_ok (hE : EnvOk P c) (hc : Core F S β O w) (hs : Slots (F.rp S β O w) (lkp σ) a.tmps) {X : Operand} {i : Nat} (ho : o.op = .extract X i)
    {vs : List (Bool × List Lf)} (hv : gv c σ X 0 = some (.tup vs)) {q : Bool × List Lf} (hq : vs[i]? = some q) {av : AV} (hav : avOf q = some av)
    (hn : After F S β O (over [] O) w av o a next) : o.wp P a w next Q := by
  obtain ⟨ws, hx, hr⟩ := gv_rel hE hs hv
  have key : ∀ (vs : List (Bool × List Lf)) (us : List Value) (i : Nat) (q : Bool × List Lf), RelVls (F.rp S β O w) vs us → vs[i]? = some q → ∃ u, us[i]? = some u ∧ RelVl (F.rp S β O w) q u := by
    intro vs
    induction vs with
    | nil => intro us i q _ h; simp at h
    | cons x vs ih =>
      intro us i q hr h
      obtain ⟨v, r, rfl, h1, h2⟩ := hr
      cases i with
      | zero => simp at h; subst h; exact ⟨v, rfl, h1⟩
      | succ i => simpa using ih r i q h2 (by simpa using h)
  obtain ⟨u, hu, hru⟩ := key vs ws.toList i q hr hq
  have hu' : ws[i]? = some u := by simpa using hu
  refine pure_ok hc (v := u) (av := av) ?_ ?_ hn
  · simp [execOp, ho, hx, Instr.extract, hu']
  · unfold avOf at hav
    split at hav
    · cases hav; exact hru
    · cases hav
      obtain ⟨l, e, h⟩ := hru
      simp only [List.cons.injEq, and_true] at e; subst e
      exact h
    · cases hav
end
end Go.Proofs.R

/- Each operation does in memory what the evaluator tells: structs and slices are put together. -/
namespace Go.Proofs.R
open Go
section
variable {P : Program} {c : Ctx}

theorem run_mapM_list {α β : Type} {g : α → Sem β} {g' : α → β} {w : World} : ∀ (l : List α), (∀ x ∈ l, (g x).run P w = .ok (g' x) w) → (l.mapM g).run P w = .ok (l.map g') w
  | [], _ => rfl
  | x :: l, h => by
    rw [List.mapM_cons, Sem.run_bind, h x List.mem_cons_self, Result.andThen_ok, Sem.run_bind, run_mapM_list l (fun y hy => h y (List.mem_cons_of_mem _ hy)), Result.andThen_ok]
    rfl

theorem run_mapM_arr {α β : Type} {g : α → Sem β} {g' : α → β} {w : World} (a : Array α) (h : ∀ x ∈ a.toList, (g x).run P w = .ok (g' x) w) : (a.mapM g).run P w = .ok (a.toList.map g').toArray w := by
  rw [Array.mapM_eq_mapM_toList, Sem.run_map, run_mapM_list a.toList h]
  rfl

theorem set_take_drop {α : Type} : ∀ (l : List α) (i : Nat) (v : α), i < l.length → l.set i v = l.take i ++ (v :: l.drop (i + 1))
  | [], _, _, h => by simp at h
  | x :: l, 0, v, _ => rfl
  | x :: l, i + 1, v, h => by simp [set_take_drop l i v (by simpa using h)]

theorem foldl_cells (off : Nat) : ∀ (vs : List Value) (k : Nat) (arr : Array Value), off + k + vs.length ≤ arr.size →
    ((vs.zipIdx k).foldl (fun cs p => cs.setIfInBounds (off + p.2) p.1) arr).toList = arr.toList.take (off + k) ++ (vs ++ arr.toList.drop (off + k + vs.length))
  | [], k, arr, _ => by simp
  | v :: vs, k, arr, h => by
    simp only [List.length_cons] at h
    rw [List.zipIdx_cons, List.foldl_cons, foldl_cells off vs (k + 1) _ (by simp; omega)]
    have hs : (arr.setIfInBounds (off + k) v).toList = arr.toList.take (off + k) ++ (v :: arr.toList.drop (off + k + 1)) := by
      rw [Array.toList_setIfInBounds]
      exact set_take_drop _ _ _ (by simp; omega)
    rw [hs]
    have hl : (arr.toList.take (off + k)).length = off + k := by rw [List.length_take]; simp; omega
    have e1 : (arr.toList.take (off + k) ++ (v :: arr.toList.drop (off + k + 1))).take (off + (k + 1)) = arr.toList.take (off + k) ++ [v] := by
      rw [show off + (k + 1) = (off + k) + 1 from by omega, List.take_append, hl]
      rw [List.take_of_length_le (by omega)]
      simp
    have e2 : (arr.toList.take (off + k) ++ (v :: arr.toList.drop (off + k + 1))).drop (off + (k + 1) + vs.length) = arr.toList.drop (off + k + (vs.length + 1)) := by
      rw [List.drop_append, hl, List.drop_of_length_le (by omega)]
      rw [show off + (k + 1) + vs.length - (off + k) = vs.length + 1 from by omega]
      simp [List.drop_drop]
      congr 1; omega
    rw [e1, e2]
    simp

/-- one part laid in -/
theorem fill_step (place : Nat → Option (Nat × Nat)) (arr : Array Value) (i : Nat) (v : Value) (rest : List (Nat × Value)) {off size : Nat} (hp : place i = some (off, size)) (hv : v.cells.size = size) (hle : off + size ≤ arr.size) :
    ∃ arr' : Array Value, Instr.fill place arr ((i, v) :: rest) = Instr.fill place arr' rest ∧ arr'.toList = arr.toList.take off ++ (v.cells.toList ++ arr.toList.drop (off + size)) ∧ arr'.size = arr.size := by
  refine ⟨v.cells.zipIdx.foldl (fun cs p => cs.setIfInBounds (off + p.2) p.1) arr, ?_, ?_, ?_⟩
  · conv => lhs; unfold Instr.fill
    rw [hp]
    simp only
    rw [if_neg]
    simp [hv]; omega
  · have := foldl_cells off v.cells.toList 0 arr (by simp; omega)
    rw [← Array.foldl_toList, Array.toList_zipIdx]
    simpa [hv] using this
  · have := congrArg List.length (foldl_cells off v.cells.toList 0 arr (by simp; omega))
    rw [← Array.foldl_toList, Array.toList_zipIdx]
    simp only [List.length_append, List.length_take, List.length_drop, Array.length_toList] at this
    simp only [Nat.add_zero] at this
    rw [this]; omega

/-- the parts of a literal, in memory -/
def PartsR (p : RP) : List (Nat × AV) → List (Nat × Value) → Prop
  | [], vs => vs = []
  | (i, av) :: as, vs => ∃ v r, vs = (i, v) :: r ∧ RelAV p av v ∧ PartsR p as r

theorem partsOf_rel (hE : EnvOk P c) {p : RP} {σ : List (Nat × AV)} {a : Act} (hs : Slots p (lkp σ) a.tmps) : ∀ {ty : Nat → TypeId} {ps : List (Nat × Operand)} {as : List (Nat × AV)}, partsOf c σ ty ps = some as → PartsR p as (ps.map fun x => (x.1, a.eval x.2))
  | ty, [], as, h => by simp only [partsOf, Option.some.injEq] at h; subst h; rfl
  | ty, (i, x) :: r, as, h => by
    simp only [partsOf, Option.bind_eq_some_iff, Option.some.injEq] at h
    obtain ⟨av, h1, as', h2, rfl⟩ := h
    exact ⟨_, _, rfl, gv_rel hE hs h1, partsOf_rel hE hs h2⟩

theorem fillParts_rel {p : RP} {fs : List TypeId} {offs : List Nat} {place : Nat → Option (Nat × Nat)} (hpl : ∀ i ft fe o, fs[i]? = some ft → lkp c.te ft = some fe → offs[i]? = some o → place i = some (o, fe.sz)) :
    ∀ {as : List (Nat × AV)} {vs : List (Nat × Value)} {ls ls' : List Lf} {arr : Array Value}, fillParts c fs offs ls as = some ls' → PartsR p as vs → RelLs p ls arr.toList → ∃ arr' : Array Value, Instr.fill place arr vs = some arr' ∧ RelLs p ls' arr'.toList
  | [], vs, ls, ls', arr, h, hv, hr => by
    simp only [fillParts, Option.some.injEq] at h; subst h
    simp only [PartsR] at hv; subst hv
    exact ⟨arr, rfl, hr⟩
  | (i, av) :: as, _, ls, ls', arr, h, ⟨v, r, e, h1, h2⟩, hr => by
    subst e
    simp only [fillParts, Option.bind_eq_some_iff] at h
    obtain ⟨ft, hft, fe, hfe, o, ho, xs, hxs, h⟩ := h
    cases hb : Nat.beq fe.sz (xs.map Lf.size).sum with
    | false => rw [hb] at h; cases h
    | true =>
      rw [hb] at h
      simp only [cond_true, Option.bind_eq_some_iff] at h
      obtain ⟨ls1, hset, h⟩ := h
      have hxr := leafs_rel hxs h1
      obtain ⟨x1, y1, z1, e1, l1, l2, h4⟩ := setCells_rel hset hr hxr
      have hvl : v.cells.size = fe.sz := by
        have := RelLs_len _ hxr
        rw [Nat.eq_of_beq_eq_true hb]; simpa [sizes] using this
      have hlen : arr.size = o + (fe.sz + z1.length) := by
        have := congrArg List.length e1
        simp only [Array.length_toList, List.length_append] at this
        omega
      obtain ⟨arr1, h5, h6, _⟩ := fill_step place arr i v r (hpl i ft fe o hft hfe ho) hvl (by omega)
      have e2 : arr1.toList = x1 ++ (v.cells.toList ++ z1) := by
        rw [h6, e1, List.take_left' l1, ← l1, ← l2, ← List.length_append, ← List.append_assoc x1 y1 z1, List.drop_left]
      obtain ⟨arr', h7, h8⟩ := fillParts_rel hpl h h2 (arr := arr1) (by rw [e2]; exact h4)
      exact ⟨arr', by rw [h5]; exact h7, h8⟩

variable {F : Fr} {S : CellSet} {β : Nat → Place} {O : Nat → Option AObj} {w : World} {a : Act} {σ : List (Nat × AV)} {o : Oper} {next : Act → World → Prop} {Q : Exit → Act → World → Prop}

theorem build_ok (hE : EnvOk P c) (hc : Core F S β O w) (hs : Slots (F.rp S β O w) (lkp σ) a.tmps) {T : TypeId} {ps : Array (Nat × Operand)} (ho : o.op = .build T ps) {te : TE} (ht : lkp c.te T = some te) {fs : List TypeId} (hd : te.d = .struct fs)
    {ty : Nat → TypeId} {as : List (Nat × AV)} (has : partsOf c σ ty ps.toList = some as) {ls : List Lf} (hls : fillParts c fs te.offs te.z as = some ls)
    (hn : After F S β O (over [] O) w (.agg ls) o a next) : o.wp P a w next Q := by
  have hT := hE.te T te ht
  obtain ⟨i0, z, hi, _, _, hz, hzr, hz1, _⟩ := hT.info
  have hu := hT.under
  rw [hd] at hu; simp only at hu
  obtain ⟨fields, hu1, hty, hof, hfs, _⟩ := hu
  have hsz : ∀ f ∈ fields.toList, ∃ j, P.info? f.type = some j := fun f hf => by obtain ⟨j, hj, _⟩ := hfs f hf; exact ⟨j, hj⟩
  let szf : Field → Nat := fun f => match P.info? f.type with | some j => j.size | none => 0
  have hplaces : (fields.mapM fun f => (do pure (f.offset, ← sizeOf f.type) : Sem (Nat × Nat))).run P w = .ok (fields.toList.map fun f => (f.offset, szf f)).toArray w := by
    refine run_mapM_arr fields ?_
    intro f hf
    obtain ⟨j, hj⟩ := hsz f hf
    simp [sizeOf, typeInfo, hj, szf]
  have hpl : ∀ (i : Nat) (ft : TypeId) (fe : TE) (o : Nat), fs[i]? = some ft → lkp c.te ft = some fe → te.offs[i]? = some o → ((fields.toList.map fun f => (f.offset, szf f)).toArray)[i]? = some (o, fe.sz) := by
    intro i ft fe o1 h1 h2 h3
    rw [← hty, List.getElem?_map] at h1
    rw [← hof, List.getElem?_map] at h3
    simp only [Option.map_eq_some_iff] at h1 h3
    obtain ⟨fl, hfl, rfl⟩ := h1
    obtain ⟨fl', hfl', rfl⟩ := h3
    rw [hfl] at hfl'; cases hfl'
    obtain ⟨j, z', hj, hjs, _⟩ := (hE.te _ fe h2).info
    have : fields[i]? = some fl := by simpa using hfl
    simp [this, szf, hj, hjs]
  obtain ⟨arr', h1, h2⟩ := fillParts_rel (p := F.rp S β O w) (place := fun i => ((fields.toList.map fun f => (f.offset, szf f)).toArray)[i]?) hpl hls (partsOf_rel hE hs has) (arr := z.cells) (hzr _)
  refine pure_ok hc (v := .agg arr') (av := .agg ls) ?_ ⟨arr', rfl, h2⟩ hn
  have hps : (ps.map fun x => (x.1, a.eval x.2)).toList = ps.toList.map fun x => (x.1, a.eval x.2) := by simp
  simp only [execOp, ho, Instr.build, Sem.run_bind, zeroValue, typeInfo, run_program, Result.andThen_ok, hi, Sem.run_pure, hz, run_underlying hu1]
  rw [show (fields.mapM fun f => (do let s ← sizeOf f.type; pure (f.offset, s) : Sem (Nat × Nat))).run P w = _ from hplaces]
  simp only [Result.andThen_ok]
  rw [show ((ps.map fun x => match x with | (i, x) => (i, a.eval x)).toList) = ps.toList.map fun x => (x.1, a.eval x.2) from by simp]
  rw [h1]
  rfl
end
end Go.Proofs.R

/- Each operation does in memory what the evaluator tells: append. -/
namespace Go.Proofs.R
open Go
section
variable {P : Program} {c : Ctx}
variable {F : Fr} {S : CellSet} {β : Nat → Place} {O : Nat → Option AObj} {w : World} {a : Act} {σ : List (Nat × AV)} {o : Oper} {next : Act → World → Prop} {Q : Exit → Act → World → Prop}

/-- a row gives way to a longer one -/
theorem Core.append (h : Core F S β O w) {n m : Nat} {e : TypeId} {t : Ty} {xs ys : List t.V} {fz : Bool} (hn : O n = some (.row e t xs fz)) (hm : O m = none) (hl : xs.length ≤ ys.length) {pl : Place} {w' : World}
    (os : w'.os = w.os) (tape : w'.tape = w.tape) (output : w'.output = w.output) (drawn : w.drawn ≤ w'.drawn) (size : w.heap.size ≤ w'.heap.size)
    (blocks : ∀ k, k < w.heap.size → (∀ off, (β n).1 ≠ some (k, off)) → w'.heap[k]? = w.heap[k]?)
    (cells : ∀ b i v, S b i → cellAt w b i = some v → cellAt w' b i = some v)
    (hpl : pl = β n ∨ ∃ b, pl.1 = some (b, 0) ∧ w.heap.size ≤ b ∧ b < w'.heap.size) {e' : TypeId}
    (hobj : ∀ q : RP, (F.rp S β O w).le q → q.β m = pl → q.w = w' → ObjR q m (.row e' t ys fz)) :
    ∃ S', Core F S' (upd β m pl) (over [(n, .dead), (m, .row e' t ys fz)] O) w' ∧ (F.rp S β O w).le (F.rp S' (upd β m pl) (over [(n, .dead), (m, .row e' t ys fz)] O) w') := by
  have hnm : n ≠ m := by rintro rfl; rw [hn] at hm; cases hm
  have hOn : over [(n, .dead), (m, .row e' t ys fz)] O n = some .dead := by simp [over, lkp_cons]
  have hOm : over [(n, .dead), (m, .row e' t ys fz)] O m = some (.row e' t ys fz) := by simp [over, lkp_cons, Ne.symm hnm]
  have hOo : ∀ k, k ≠ n → k ≠ m → over [(n, .dead), (m, .row e' t ys fz)] O k = O k := by
    intro k h1 h2
    have e0 : lkp ([] : Upd) k = none := rfl
    simp [over, lkp_cons, h1, h2, e0]
  have hobjn := h.obj n _ hn
  refine ⟨fun b i => S b i ∨ (fz = true ∧ rowCells (upd β m pl) m (ys.length * t.size) b i), ?_⟩
  have hplb : ∀ b off, pl.1 = some (b, off) → (F.w0.heap.size ≤ b ∨ F.X b) ∧ b < w'.heap.size := by
    intro b off hb
    rcases hpl with rfl | ⟨b', h1, h2, h3⟩
    · exact ⟨h.far n _ b off hn rfl hb, Nat.lt_of_lt_of_le (ObjR_block hobjn rfl hb) size⟩
    · rw [h1] at hb; simp only [Option.some.injEq, Prod.mk.injEq] at hb; obtain ⟨rfl, _⟩ := hb
      exact ⟨.inl (by have := h.size; omega), h3⟩
  have hother : ∀ k ok b off off', k ≠ n → k ≠ m → O k = some ok → ok.live = true → (β k).1 = some (b, off) → pl.1 = some (b, off') → False := by
    intro k ok b off off' h1 _ hk hlk hb hb'
    rcases hpl with rfl | ⟨b', h3, h4, _⟩
    · exact h1 (h.apart k n ok _ b off off' hk hn hlk rfl hb hb')
    · rw [h3] at hb'; simp only [Option.some.injEq, Prod.mk.injEq] at hb'; obtain ⟨rfl, _⟩ := hb'
      have := ObjR_block (h.obj k ok hk) hlk hb
      simp only [Fr.rp] at this; omega
  refine h.change (fun k => k = n ∨ k = m) os tape output drawn size ?_ (fun _ _ h => .inl h) cells ?_ ?_ ?_ ?_ ?_ ?_ ?_ ?_ ?_
  · intro k hk hb
    exact blocks k hk (fun off => hb n _ off hn rfl (.inl rfl))
  · intro k hk
    simp only [not_or] at hk
    exact ⟨hOo k hk.1 hk.2, upd_ne _ _ _ _ hk.2⟩
  · rintro k ok hk (rfl | rfl)
    · rw [hn] at hk; cases hk
      exact ⟨.dead, hOn, .inl rfl, fun h => by cases h⟩
    · rw [hm] at hk; cases hk
  · rintro le k ok hk (rfl | rfl)
    · rw [hOn] at hk; cases hk; trivial
    · rw [hOm] at hk; cases hk
      exact hobj _ le (upd_same _ _ _) rfl
  · rintro k ok b off (rfl | rfl) hk hlk hb
    · rw [hOn] at hk; cases hk; cases hlk
    · rw [upd_same] at hb; exact (hplb b off hb).1
  · rintro k k' ok ok' b x y (rfl | rfl) hk hk' hlk hlk' hb hb'
    · rw [hOn] at hk; cases hk; cases hlk
    · by_cases e1 : k' = k
      · exact e1.symm
      · exfalso
        rw [upd_same] at hb
        rw [upd_ne _ _ _ _ e1] at hb'
        by_cases e2 : k' = n
        · rw [e2, hOn] at hk'; cases hk'; cases hlk'
        · rw [hOo k' e2 e1] at hk'
          exact hother k' ok' b y x e2 e1 hk' hlk' hb' hb
  · rintro b i (hs | ⟨_, off, hb, _, _⟩)
    · exact .inl hs
    · rw [upd_same] at hb; exact .inr (.inr (hplb b off hb).1)
  · rintro b i (hs | ⟨_, off, hb, _, _⟩)
    · exact Nat.lt_of_lt_of_le (h.dom b i hs) size
    · rw [upd_same] at hb; exact (hplb b off hb).2
  · rintro b i k ok off hs hk hlk hb
    by_cases e1 : k = m
    · subst e1
      rw [hOm] at hk; cases hk
      rw [upd_same] at hb
      rcases hs with hs | ⟨rfl, off', hb', h1, h2⟩
      · rcases hpl with rfl | ⟨b', h3, h4, _⟩
        · obtain ⟨e1, t1, xs1, h5, h6⟩ := h.still b i n _ off hs hn rfl hb
          cases h5
          refine ⟨_, _, _, rfl, Nat.lt_of_lt_of_le h6 ?_⟩
          have := Nat.mul_le_mul_right t.size hl
          omega
        · rw [h3] at hb; simp only [Option.some.injEq, Prod.mk.injEq] at hb; obtain ⟨rfl, _⟩ := hb
          have := h.dom b' i hs; omega
      · rw [upd_same] at hb'
        rw [hb'] at hb; simp only [Option.some.injEq, Prod.mk.injEq, true_and] at hb; subst hb
        exact ⟨_, _, _, rfl, h2⟩
    · rw [upd_ne _ _ _ _ e1] at hb
      by_cases e2 : k = n
      · rw [e2, hOn] at hk; cases hk; cases hlk
      · rw [hOo k e2 e1] at hk
        rcases hs with hs | ⟨_, off', hb', _, _⟩
        · exact h.still b i k ok off hs hk hlk hb
        · rw [upd_same] at hb'
          exact (hother k ok b off off' e2 e1 hk hlk hb hb').elim
  · rintro k e1 t1 xs1 b off i (rfl | rfl) hk hb h1 h2
    · rw [hOn] at hk; cases hk
    · rw [hOm] at hk; cases hk
      exact .inr ⟨rfl, off, hb, h1, h2⟩

/-- an empty row, without memory -/
theorem Core.newNil (h : Core F S β O w) {m : Nat} {e : TypeId} {t : Ty} (hm : O m = none) :
    Core F S (upd β m (none, 0)) (over [(m, .row e t [] false)] O) w ∧ (F.rp S β O w).le (F.rp S (upd β m (none, 0)) (over [(m, .row e t [] false)] O) w) := by
  rw [over_cons, over_nil]
  refine h.change (fun k => k = m) rfl rfl rfl (Nat.le_refl _) (Nat.le_refl _) (fun _ _ _ => rfl) (fun _ _ h => h) (fun _ _ _ _ h => h) ?_ ?_ ?_ ?_ ?_ (fun _ _ h => .inl h) h.dom ?_ ?_
  · intro k hk; exact ⟨upd_ne _ _ _ _ hk, upd_ne _ _ _ _ hk⟩
  · rintro k ok hk rfl; rw [hm] at hk; cases hk
  · rintro le k ok hk rfl
    rw [upd_same] at hk; cases hk
    exact .inl ⟨by simp [Fr.rp, upd_same], rfl⟩
  · rintro k ok b off rfl _ _ hb
    rw [upd_same] at hb; cases hb
  · rintro k k' ok ok' b x y rfl _ _ _ _ hb _
    rw [upd_same] at hb; cases hb
  · rintro b i k ok off hs hk hlk hb
    by_cases e1 : k = m
    · subst e1; rw [upd_same] at hb; cases hb
    · rw [upd_ne _ _ _ _ e1] at hk hb
      exact h.still b i k ok off hs hk hlk hb
  · rintro k e1 t1 xs1 b off i rfl hk _ _ _
    rw [upd_same] at hk; cases hk

theorem growBy_le (n : Nat) : ∀ (r k : Nat), 256 ≤ k → Builtin.growBy n r k ≤ max k (2 * n)
  | 0, k, _ => by simp only [Builtin.growBy]; omega
  | r + 1, k, h => by
    simp only [Builtin.growBy]
    split
    · omega
    · rename_i hk
      have := growBy_le n r (k + (k + 768) / 4) (by omega)
      omega
theorem nextcap_le {n k : Nat} (h : k < n) : Builtin.nextslicecap n k ≤ 2 * n := by
  unfold Builtin.nextslicecap
  split
  · omega
  · split
    · omega
    · have := growBy_le n 4 k (by omega); omega

theorem ints_rd (S : CellSet) (w : World) : ∀ l : List UInt8, RdsOf (Rd S w (.int .u8)) (l.map fun b => .int .u8 b.toNat) (l.map fun b => (b.toNat : Int))
  | [] => rfl
  | b :: l => ⟨[.int .u8 b.toNat], l.map fun b => .int .u8 b.toNat, rfl, rfl, ints_rd S w l⟩

/-- where a slice's content comes from -/
theorem src_cells {p : RP} {lk : Nat → Option AObj} (hlk : ∀ n o, lk n = some o → p.O n = some o) (hob : ∀ n o, p.O n = some o → ObjR p n o) {l : Lf} {v : Value} (hr : RelL p l [v]) {q : Σ t : Ty, List t.V} (h : rowsOf lk l = some q) :
    ∃ cs, (∀ w' : World, (Builtin.lenOf v).run P w' = .ok q.2.length w') ∧ RdsOf (Rd p.S p.w q.1) cs q.2 ∧ ∀ w' : World, w'.heap = p.w.heap → (Builtin.firstCells q.1.size q.2.length v).run P w' = .ok cs.toArray w' := by
  have hcell : ∀ (w' : World) b i, w'.heap = p.w.heap → cellAt w' b i = cellAt p.w b i := fun w' b i hw => cellAt_block (by rw [hw])
  have hload : ∀ (w' : World) (b o : Nat) (cs : List Value), w'.heap = p.w.heap → (∀ j v, cs[j]? = some v → cellAt p.w b (o + j) = some v) → (loadCells ⟨b, o, none⟩ cs.length).run P w' = .ok cs.toArray w' := by
    intro w' b o cs hw hc
    refine run_loadCells_list (P := P) w' ⟨b, o, none⟩ cs ?_
    intro j v hj; rw [add_at]
    have := hc j v hj
    rw [← hcell w' b _ hw] at this; exact this
  unfold rowsOf at h
  split at h
  · rename_i st
    cases h
    simp only [RelL, Rd, List.cons.injEq, and_true] at hr
    subst hr
    have hlen : (ints st).length = st.size := by unfold ints; rw [List.length_map, Array.length_toList]; rfl
    refine ⟨st.data.toList.map fun b => .int .u8 b.toNat, fun w' => ?_, ?_, fun w' _ => ?_⟩
    · simp only [hlen]; rfl
    · exact ints_rd _ _ st.data.toList
    · simp only [hlen, Builtin.firstCells]
      have he : st.extract 0 st.size = st := by simp
      rw [he, Sem.run_pure]
      congr 1
      apply Array.ext'
      simp
  · rename_i t xs
    cases h
    obtain ⟨A, cap, e, hl, hx⟩ := hr
    simp only [List.cons.injEq, and_true] at e
    rcases hx with rfl | ⟨b, o, ds, rfl, h1, h2⟩
    · refine ⟨[], fun w' => by rw [e]; rfl, rfl, ?_⟩
      intro w' _
      subst e
      cases A <;> simp [Builtin.firstCells, loadCells, loadCellsFrom]
    · refine ⟨ds, fun w' => by rw [e]; rfl, h1, ?_⟩
      intro w' hw
      subst e
      have := hload w' b o ds hw (At_cells h2)
      rw [RdsOf_len (fun _ _ => Rd_len t) h1] at this
      simp [Builtin.firstCells, this]
  · rename_i e0 t
    cases h
    simp only [RelL, List.cons.injEq, and_true] at hr
    refine ⟨[], fun w' => by rw [hr]; rfl, rfl, ?_⟩
    intro w' _
    subst hr
    simp [Builtin.firstCells]
  · rename_i n
    split at h
    · rename_i e0 t xs fz hl
      cases h
      have hO := hlk n _ hl
      unfold RelL at hr; rw [hO] at hr; simp only [List.cons.injEq, and_true] at hr
      rcases hob n _ hO with ⟨h1, rfl⟩ | ⟨b, o, arr, cs, rest, h1, h2, h3, h4, h5, _⟩
      · refine ⟨[], fun w' => by rw [hr, h1]; rfl, rfl, ?_⟩
        intro w' _
        rw [hr, h1]
        simp [Builtin.firstCells, addrOf]
      · refine ⟨cs, fun w' => by rw [hr]; rfl, h5, ?_⟩
        intro w' hw
        have hc2 : ∀ j v, cs[j]? = some v → cellAt p.w b (o + j) = some v := by
          intro j v hj
          have : (arr.toList.drop o)[j]? = some v := by
            rw [h4, List.getElem?_append_left (List.getElem?_eq_some_iff.1 hj).1]; exact hj
          rw [List.getElem?_drop] at this
          have := arr_cells h2 (o + j) v this
          simpa using this
        have := hload w' b o cs hw hc2
        rw [RdsOf_len (fun _ _ => Rd_len t) h5] at this
        rw [hr, h1]
        simp [Builtin.firstCells, addrOf, this]
    · cases h
  · rename_i n lo hi
    split at h
    · rename_i e0 t xs hl
      cases h
      have hO := hlk n _ hl
      unfold RelL at hr; rw [hO] at hr; simp only [List.cons.injEq, and_true] at hr
      obtain ⟨h0, h1, h2, hr⟩ := hr
      have hvl : (viewL xs lo hi).length = hi.toNat - lo.toNat := by unfold viewL; rw [List.length_drop, List.length_take]; omega
      rcases hob n _ hO with ⟨h3, rfl⟩ | ⟨b, o, arr, cs, rest, h3, h4, h5, h6, h7, _⟩
      · have e1 : hi.toNat - lo.toNat = 0 := by simp at h2; omega
        have e2 : viewL ([] : List t.V) lo hi = [] := by simp [viewL]
        refine ⟨[], fun w' => by rw [hr, e1, e2]; rfl, by rw [e2]; rfl, ?_⟩
        intro w' _
        rw [hr, h3, e1, e2]
        simp [Builtin.firstCells, addrOf]
      · have e1 := List.take_append_drop hi.toNat xs
        rw [← e1] at h7
        obtain ⟨c1, d1, rfl, h8, h9⟩ := RdsOf_split _ _ h7
        have e2 := List.take_append_drop lo.toNat (xs.take hi.toNat)
        rw [← e2] at h8
        obtain ⟨c2, d2, rfl, h10, h11⟩ := RdsOf_split _ _ h8
        have hc2 : c2.length = lo.toNat * t.size := by rw [RdsOf_len (fun _ _ => Rd_len t) h10, List.length_take, List.length_take]; congr 1; omega
        refine ⟨d2, fun w' => by rw [hr, ← hvl]; rfl, h11, ?_⟩
        intro w' hw
        have hd2 : d2.length = (hi.toNat - lo.toNat) * t.size := by rw [RdsOf_len (fun _ _ => Rd_len t) h11]; congr 1
        rw [hr, h3, hvl]
        by_cases hz : (p.β n).2 = lo.toNat
        · have e3 : hi.toNat - lo.toNat = 0 := by omega
          rw [e3, Nat.zero_mul] at hd2
          have := List.eq_nil_of_length_eq_zero hd2
          subst this
          rw [if_pos hz, e3]
          simp [Builtin.firstCells, addrOf, loadCells, loadCellsFrom]
        · rw [if_neg hz]
          have hc3 : ∀ j v, d2[j]? = some v → cellAt p.w b (o + lo.toNat * t.size + j) = some v := by
            intro j v hj
            have : (arr.toList.drop o)[lo.toNat * t.size + j]? = some v := by
              rw [h6, ← hc2, List.append_assoc, List.append_assoc, List.getElem?_append_right (by omega), Nat.add_sub_cancel_left, List.getElem?_append_left (List.getElem?_eq_some_iff.1 hj).1]; exact hj
            rw [List.getElem?_drop] at this
            have := arr_cells h4 _ v this
            simpa [Nat.add_assoc] using this
          have := hload w' b _ d2 hw hc3
          rw [hd2] at this
          simp [Builtin.firstCells, addrOf, add_at, this]
    · cases h
  · cases h
end
end Go.Proofs.R

/- Each operation does in memory what the evaluator tells: append, len, make. -/
namespace Go.Proofs.R
open Go
section
variable {P : Program} {c : Ctx}
variable {F : Fr} {S : CellSet} {β : Nat → Place} {O : Nat → Option AObj} {w : World} {a : Act} {σ : List (Nat × AV)} {o : Oper} {next : Act → World → Prop} {Q : Exit → Act → World → Prop}

/-- the run of append where there is room -/
theorem append_room {T U : TypeId} {e : TypeId} (hT : P.underlying T = some (.slice e)) (hU : (∃ eu, P.underlying U = some (.slice eu)) ∨ P.underlying U = some .string) {sz : Nat} (hs : ∀ w, (sizeOf e).run P w = .ok sz w) {ty : TypeId}
    {base : Option Addr} {n k cap : Nat} {x : Value} (hx : ∀ w : World, (Builtin.lenOf x).run P w = .ok k w) {cs : Array Value} {w w' : World} (hf : (Builtin.firstCells sz k x).run P w = .ok cs w) (hle : n + k ≤ cap)
    (hst : ∀ ad, base = some ad → (storeCells (ad.add (n * sz)) cs.toList).run P w = .ok () w') (hno : base = none → w' = w) :
    (Builtin.append_ #[T, U] ty #[.slice base n cap, x]).run P w = .ok (.slice base (n + k) cap) w' := by
  cases base with
  | none =>
    have := hno rfl; subst this
    rcases hU with ⟨eu, hU⟩ | hU <;> simp [Builtin.append_, run_underlying hT, run_underlying hU, hs, hx, hle, hf]
  | some ad =>
    have h1 := hst ad rfl
    rcases hU with ⟨eu, hU⟩ | hU <;> simp [Builtin.append_, run_underlying hT, run_underlying hU, hs, hx, hle, hf, h1]

/-- the run of append where a new row is made -/
theorem append_grow {T U : TypeId} {e : TypeId} (hT : P.underlying T = some (.slice e)) (hU : (∃ eu, P.underlying U = some (.slice eu)) ∨ P.underlying U = some .string) {i : TypeInfo} (hi : P.info? e = some i) {z : Value} (hz : i.zero = some z) (hb : i.bytes ≤ 8192) {ty : TypeId}
    {base : Option Addr} {n k cap : Nat} {x : Value} (hx : ∀ w : World, (Builtin.lenOf x).run P w = .ok k w) {cs ds : Array Value} {w : World}
    (hf : ∀ w' : World, w'.heap = w.heap → (Builtin.firstCells i.size k x).run P w' = .ok cs w') (ho : ∀ w' : World, w'.heap = w.heap → (Builtin.firstCells i.size n (.slice base n cap)).run P w' = .ok ds w') (hgt : cap < n + k) (hle : n + k ≤ mostLen) :
    ∃ newCap, n + k ≤ newCap ∧ (Builtin.append_ #[T, U] ty #[.slice base n cap, x]).run P w =
      .ok (.slice (some ⟨w.heap.size, 0, none⟩) (n + k) newCap) { w with drawn := w.drawn + 1, heap := w.heap.push (.cells (ds ++ cs ++ Builtin.zeroCells z.cells (newCap - (n + k))) e) } := by
  unfold mostLen at hle
  have h1 : ¬ (n + k ≤ cap) := by omega
  have h2 : ¬ (((n + k : Nat) : Int) > IntKind.i64.max) := by
    have : IntKind.i64.max = 9223372036854775807 := by decide
    rw [this]; omega
  have h3 : ¬ (Builtin.nextslicecap (n + k) cap * i.bytes > 2 ^ 48) := by
    have := nextcap_le hgt
    have : Builtin.nextslicecap (n + k) cap * i.bytes ≤ (2 * (n + k)) * 8192 := Nat.mul_le_mul this hb
    omega
  refine ⟨(Question.appendCap (n + k) cap e).cut (w.tape w.drawn (Question.appendCap (n + k) cap e)), by simp [Question.cut], ?_⟩
  have h2' : ¬ ((9223372036854775807 : Int) < ((n : Int) + (k : Int))) := by omega
  rcases hU with ⟨eu, hU⟩ | hU
  all_goals
    simp only [Builtin.append_, run_underlying hT, run_underlying hU, sizeOf, typeInfo, hi, Sem.run_bind, Sem.run_pure, Result.andThen_ok, run_program, hx, h1, if_false, h3, zeroValue, hz,
      List.getElem?_toArray, List.getElem?_cons_zero, List.getElem?_cons_succ, Array.getElem?_toList, Sem.run_ite, h2, false_and, run_choose, Question.forced, Bool.false_eq_true, run_askRoom]
    rw [ho { w with drawn := w.drawn + 1 } rfl]
    simp only [Result.andThen_ok, Bool.not_false, if_true]
    rw [hf { w with drawn := w.drawn + 1 } rfl]
    simp [newRow]
    rfl

theorem zeroCells_size (z : Array Value) (n : Nat) : (Builtin.zeroCells z n).size = n * z.size := by simp [Builtin.zeroCells]
theorem zeroCells_one {z : Array Value} (h : ∀ v ∈ z.toList, v.oneCell' = true) (n : Nat) : ∀ v ∈ (Builtin.zeroCells z n).toList, v.oneCell' = true := by
  intro v hv
  simp only [Builtin.zeroCells, Array.toList_map, List.mem_map, Array.toList_range, List.mem_range] at hv
  obtain ⟨i, hi, rfl⟩ := hv
  have hz : 0 < z.size := by
    rcases Nat.eq_zero_or_pos z.size with h0 | h0
    · rw [h0] at hi; omega
    · exact h0
  have hlt : i % z.size < z.size := Nat.mod_lt _ hz
  rw [getElem!_pos z _ hlt]
  exact h _ (by simp)

theorem castV_len {t u : Ty} {x : List t.V} {y : List u.V} (h : castV (.sl t) (.sl u) x = some y) : ∃ e : t = u, e ▸ x = y := by
  obtain ⟨e, h1⟩ := castV_eq h
  cases e
  exact ⟨rfl, h1⟩

theorem grow_le {n : Nat} {u : Unit} (h : grow n = some u) : n ≤ mostLen := by
  unfold grow at h; split at h
  · assumption
  · cases h

/-- the cells of a row of the call's own -/
theorem row_src {p : RP} {n : Nat} {e : TypeId} {t : Ty} {xs : List t.V} {fz : Bool} (h : ObjR p n (.row e t xs fz)) :
    ∃ cs, RdsOf (Rd p.S p.w t) cs xs ∧ xs.length ≤ (p.β n).2 ∧ (∀ w' : World, w'.heap = p.w.heap → (Builtin.firstCells t.size xs.length (.slice (addrOf (p.β n).1) xs.length (p.β n).2)).run P w' = .ok cs.toArray w') := by
  rcases h with ⟨h1, rfl⟩ | ⟨b, o, arr, cs, rest, h1, h2, h3, h4, h5, _⟩
  · refine ⟨[], rfl, Nat.zero_le _, ?_⟩
    intro w' _
    rw [h1]
    simp [Builtin.firstCells, addrOf]
  · refine ⟨cs, h5, h3, ?_⟩
    intro w' hw
    have hc2 : ∀ j v, cs[j]? = some v → w'.cell? ((⟨b, o, none⟩ : Addr).add j) = some v := by
      intro j v hj
      have : (arr.toList.drop o)[j]? = some v := by
        rw [h4, List.getElem?_append_left (List.getElem?_eq_some_iff.1 hj).1]; exact hj
      rw [List.getElem?_drop] at this
      have h6 := arr_cells h2 (o + j) v this
      rw [add_at]
      have h7 : cellAt w' b (o + j) = cellAt p.w b (o + j) := cellAt_block (by rw [hw])
      rw [Nat.zero_add] at h6
      exact h7.trans h6
    have := run_loadCells_list (P := P) w' ⟨b, o, none⟩ cs hc2
    rw [RdsOf_len (fun _ _ => Rd_len t) h5] at this
    rw [h1]
    simp [Builtin.firstCells, addrOf, this]

theorem appendOp_run (hE : EnvOk P c) (hc : Core F S β O w) {lk : Nat → Option AObj} (hlk : ∀ n o, lk n = some o → O n = some o) {d : Nat} (hd : O (d * 8) = none) {T U : TypeId} (hU : (slOk c U || strOk c U) = true) {s x : Lf} {vs vx : Value}
    (hs : RelL (F.rp S β O w) s [vs]) (hx : RelL (F.rp S β O w) x [vx]) {av : AV} {u : Upd} (h : appendOp c lk d T s x two = some (av, u)) (ty : TypeId) :
    ∃ v w' S' β', (Builtin.append_ #[T, U] ty #[vs, vx]).run P w = .ok v w' ∧ Core F S' β' (over u O) w' ∧ (F.rp S β O w).le (F.rp S' β' (over u O) w') ∧ RelAV (F.rp S' β' (over u O) w') av v := by
  have hUu : (∃ eu, P.underlying U = some (.slice eu)) ∨ P.underlying U = some .string := by
    rcases Bool.or_eq_true_iff.1 hU with hU | hU
    · exact .inl (slOk_spec hE hU)
    · exact .inr (strOk_spec hE hU)
  unfold appendOp at h
  simp only [Option.bind_eq_some_iff] at h
  obtain ⟨te, hte, h⟩ := h
  split at h
  · rename_i e hde
    simp only [Option.bind_eq_some_iff] at h
    obtain ⟨ys, hys, h⟩ := h
    cases hel : eltOk c T ys.1 with
    | false => rw [hel] at h; cases h
    | true =>
      rw [hel] at h; simp only [cond_true] at h
      obtain ⟨e', ee, hTu, hee, hsz, hpos, te', hte', hde'⟩ := eltOk_spec hE hel
      rw [hte] at hte'; cases hte'
      rw [hde] at hde'; cases hde'
      obtain ⟨t0, ys⟩ := ys
      simp only at hsz hpos h
      obtain ⟨i, z, hi, hisz, hib, hiz, hzr, hz1, hzs⟩ := (hE.te e ee hee).info
      obtain ⟨cs, hvx, hrd, hfirst⟩ := src_cells (P := P) hlk hc.obj hx hys
      simp only [Fr.rp] at hrd hfirst hvx
      have hcl : cs.length = ys.length * t0.size := RdsOf_len (fun _ _ => Rd_len t0) hrd
      have hc1 : ∀ v ∈ cs, v.oneCell' = true := RdsOf_one (fun _ _ => Rd_one t0) hrd
      split at h
      · -- onto nil
        rename_i e1 t
        cases hb : Nat.beq e e1 with
        | false => rw [hb] at h; cases h
        | true =>
          rw [hb] at h
          simp only [cond_true, bindD, Option.bind_eq_some_iff, two, Option.some.injEq, Prod.mk.injEq] at h
          obtain ⟨zs, hzs1, _, hg, rfl, rfl⟩ := h
          obtain ⟨ec, hzs2⟩ := castV_len hzs1
          cases ec
          have hzs3 : ys = zs := hzs2
          subst hzs3
          simp only [RelL, List.cons.injEq, and_true] at hs
          subst hs
          have hgl := grow_le hg
          rcases Nat.eq_zero_or_pos ys.length with h0 | h0
          · have : ys = [] := List.eq_nil_of_length_eq_zero h0
            subst this
            obtain ⟨h1, h2⟩ := hc.newNil (e := e) (t := t0) hd
            refine ⟨.slice none 0 0, w, S, _, ?_, h1, h2, .inr ?_⟩
            · have := append_room (P := P) hTu hUu (sz := ee.sz) (fun w => sizeOf_run (hE.te e ee hee) w) (ty := ty) (base := none) (n := 0) (cap := 0) hvx (by rw [hsz]; exact hfirst w rfl) (by simp) (w' := w) (by intro ad hh; cases hh) (fun _ => rfl)
              simpa using this
            · unfold RelL; simp [Fr.rp, over, lkp_cons, upd_same, addrOf]
          · obtain ⟨nc, hnc, hrun⟩ := append_grow (P := P) hTu hUu hi hiz hib (ty := ty) (base := none) (n := 0) (cap := 0) hvx (cs := cs.toArray) (ds := #[]) (w := w)
              (fun w' hw => by rw [hisz, hsz]; exact hfirst w' hw) (fun w' _ => by simp [Builtin.firstCells]) (by omega) (by omega)
            obtain ⟨hcd, hld⟩ := hc.redrawn (w.drawn + 1) (Nat.le_succ _)
            obtain ⟨h1, h2⟩ := hcd.new hd (.row e t0 ys false) (by intro _ _ _ hh; cases hh) (.cells (#[] ++ cs.toArray ++ Builtin.zeroCells z.cells (nc - (0 + ys.length))) e) nc (by
              intro q hq hb hw
              refine .inr ⟨w.heap.size, 0, _, cs, (Builtin.zeroCells z.cells (nc - (0 + ys.length))).toList, by rw [hb], hw, by rw [hb]; simpa using hnc, by simp, ?_, ?_, by simp, ?_⟩
              · exact RdsOf_mono (fun _ _ => Rd_mono (fun b i hs => hq.S b i (hld.S b i hs)) (fun b i v hs hc => hq.cells b i v (.inl (hld.S b i hs)) (hld.cells b i v (.inl hs) hc)) t0) hrd
              · rw [hb]
                simp only [Array.size_append, List.size_toArray, List.length_nil, zeroCells_size, hcl, hzs, hsz]
                have : nc = ys.length + (nc - (0 + ys.length)) := by omega
                conv => lhs; rw [this]
                rw [Nat.add_mul]; omega
              · intro v hv
                simp only [Array.toList_append, List.toList_toArray, List.nil_append, List.mem_append] at hv
                rcases hv with hv | hv
                · exact hc1 v hv
                · exact zeroCells_one hz1 _ v hv)
            refine ⟨_, _, S, _, hrun, by rw [over_cons, over_nil]; exact h1, ?_, .inr ?_⟩
            · rw [over_cons, over_nil]
              exact le_trans_same hld h2 (fun n o o' ho ho' _ => by
                simp only [Fr.rp] at ho ⊢
                exact upd_ne _ _ _ _ (by rintro rfl; rw [hd] at ho; cases ho))
            · unfold RelL; simp [Fr.rp, over, lkp_cons, upd_same, addrOf]
      · -- onto a row
        rename_i n
        split at h
        · rename_i e1 t xs fz hln
          cases hb : Nat.beq e e1 with
          | false => rw [hb] at h; cases h
          | true =>
            rw [hb] at h
            simp only [cond_true, bindD, Option.bind_eq_some_iff, two, Option.some.injEq, Prod.mk.injEq] at h
            obtain ⟨zs, hzs1, _, hg, rfl, rfl⟩ := h
            obtain ⟨ec, hzs2⟩ := castV_len hzs1
            cases ec
            have hzs3 : ys = zs := hzs2
            subst hzs3
            obtain rfl := beq_sz hb
            have hO := hlk n _ hln
            have hobj := hc.obj n _ hO
            have hgl := grow_le hg
            unfold RelL at hs; simp only [Fr.rp] at hs; rw [hO] at hs
            simp only [List.cons.injEq, and_true] at hs
            subst hs
            have hnd : n ≠ d * 8 := by rintro rfl; rw [hd] at hO; cases hO
            have hOm : over [(n, AObj.dead), (d * 8, .row e t0 (xs ++ ys) fz)] O (d * 8) = some (.row e t0 (xs ++ ys) fz) := by simp [over, lkp_cons, Ne.symm hnd]
            by_cases hroom : xs.length + ys.length ≤ (β n).2
            · -- in place
              rcases hobj with ⟨h1, h2⟩ | ⟨b, off, arr, cx0, rest, h1, h2, h3, h4, h5, h6, h7, h8⟩
              · simp only [Fr.rp] at h1
                subst h2
                rw [h1] at hroom
                have hy0 : ys = [] := List.eq_nil_of_length_eq_zero (by simpa using hroom)
                subst hy0
                obtain ⟨S', h9, h10⟩ := hc.append hO hd (ys := ([] ++ [] : List t0.V)) (by simp) (pl := β n) (w' := w) rfl rfl rfl (Nat.le_refl _) (Nat.le_refl _) (fun _ _ _ => rfl) (fun _ _ _ _ hh => hh) (.inl rfl) (e' := e) (by
                  intro q _ hb _
                  exact .inl ⟨by rw [hb]; exact h1, rfl⟩)
                refine ⟨.slice none 0 0, w, S', _, ?_, h9, h10, .inr ?_⟩
                · have := append_room (P := P) hTu hUu (sz := ee.sz) (fun w => sizeOf_run (hE.te e ee hee) w) (ty := ty) (base := none) (n := 0) (cap := 0) hvx (by rw [hsz]; exact hfirst w rfl) (by simp) (w' := w) (by intro ad hh; cases hh) (fun _ => rfl)
                  rw [h1]; simpa [addrOf] using this
                · unfold RelL; simp only [Fr.rp]; rw [hOm]; simp [upd_same, h1, addrOf]
              · simp only [Fr.rp] at h1 h2 h3 h5 h6
                have hxl : cx0.length = xs.length * t0.size := RdsOf_len (fun _ _ => Rd_len t0) h5
                have hle1 : off + xs.length * t0.size + ys.length * t0.size ≤ arr.size := by
                  have := Nat.mul_le_mul_right t0.size hroom
                  rw [Nat.add_mul] at this; omega
                have hst := run_storeCells_at (P := P) b (off + xs.length * t0.size) e cs 0 arr w h2 (by rw [hcl]; omega) hc1
                have hrest : rest.length = arr.size - (off + xs.length * t0.size) := by
                  have := congrArg List.length h4
                  simp only [List.length_drop, Array.length_toList, List.length_append] at this
                  omega
                have e1 : arr.toList.take (off + xs.length * t0.size + 0) = arr.toList.take off ++ cx0 := by
                  rw [Nat.add_zero, List.take_add, h4, ← hxl, List.take_left]
                have e2 : arr.toList.drop (off + xs.length * t0.size + 0 + cs.length) = rest.drop cs.length := by
                  rw [Nat.add_zero, Nat.add_assoc, ← List.drop_drop, h4, ← List.drop_drop, ← hxl, List.drop_left]
                rw [e1, e2] at hst
                have htl : (arr.toList.take off).length = off := by rw [List.length_take]; simp; omega
                obtain ⟨S', h9, h10⟩ := hc.append hO hd (ys := xs ++ ys) (by simp) (pl := β n) (w' := w.setRow b (arr.toList.take off ++ cx0 ++ cs ++ rest.drop cs.length).toArray) rfl rfl rfl (by simp) (by simp)
                  (by intro k _ hk; exact setRow_other w b k _ (by rintro rfl; exact hk off h1))
                  (by
                    intro b' i v hsb hcl'
                    by_cases hbb : b' = b
                    · subst hbb
                      obtain ⟨e3, t3, xs3, h11, h12⟩ := hc.still b' i n _ off hsb hO rfl h1
                      cases h11
                      have hcell : ∀ (l : List Value), i < l.length → cellAt (w.setRow b' (l ++ cs ++ rest.drop cs.length).toArray) b' i = l[i]? := by
                        intro l hl
                        unfold cellAt
                        rw [cell_setRow_same w b' i arr _ e (0, 0) h2]
                        simp only [List.append_assoc, List.getElem?_toArray]
                        rw [List.getElem?_append_left hl]
                      rw [hcell _ (by rw [List.length_append, htl, hxl]; exact h12)]
                      have : arr.toList[i]? = some v := by
                        unfold cellAt World.cell? at hcl'
                        rw [h2] at hcl'
                        simpa using hcl'
                      rw [← this]
                      have e4 : arr.toList = (arr.toList.take off ++ cx0) ++ rest := by
                        rw [List.append_assoc, ← h4, List.take_append_drop]
                      have e5 : arr.toList[i]? = ((arr.toList.take off ++ cx0) ++ rest)[i]? := congrArg (fun l : List Value => l[i]?) e4
                      exact (e5.trans (List.getElem?_append_left (by rw [List.length_append, htl, hxl]; exact h12))).symm
                    · rw [← hcl']; exact cellAt_block (setRow_other w b b' _ hbb))
                  (.inl rfl) (e' := e) (by
                    intro q hq hb hw
                    refine .inr ⟨b, off, _, cx0 ++ cs, rest.drop cs.length, by rw [hb]; exact h1, by rw [hw]; exact setRow_heap w b arr _ e (0, 0) h2, by rw [hb, List.length_append]; exact hroom, ?_, ?_, ?_, ?_, ?_⟩
                    · simp only [List.append_assoc]
                      exact List.drop_left' htl
                    · exact RdsOf_append (RdsOf_mono (fun _ _ => Rd_mono hq.S (fun b i v hs => hq.cells b i v (.inl hs)) t0) h5) (RdsOf_mono (fun _ _ => Rd_mono hq.S (fun b i v hs => hq.cells b i v (.inl hs)) t0) hrd)
                    · rw [hb]
                      simp only [List.size_toArray, List.length_append, List.length_drop, htl, hxl, hcl, hrest]
                      omega
                    · simp only [List.size_toArray, List.length_append, htl]; omega
                    · intro v hv
                      have hin : ∀ v, v ∈ arr.toList.take off ∨ v ∈ cx0 ∨ v ∈ rest → v.oneCell' = true := by
                        intro v hv
                        refine h8 v ?_
                        rw [← List.take_append_drop off arr.toList, h4]
                        simp only [List.mem_append]
                        rcases hv with h | h | h <;> simp [h]
                      simp only [List.append_assoc, List.mem_append] at hv
                      rcases hv with h | h | h | h
                      · exact hin v (.inl h)
                      · exact hin v (.inr (.inl h))
                      · exact hc1 v h
                      · exact hin v (.inr (.inr (List.mem_of_mem_drop h))))
                refine ⟨.slice (addrOf (β n).1) (xs.length + ys.length) (β n).2, _, S', _, ?_, h9, h10, .inr ?_⟩
                · refine append_room (P := P) hTu hUu (sz := ee.sz) (fun w => sizeOf_run (hE.te e ee hee) w) (ty := ty) hvx (by rw [hsz]; exact hfirst w rfl) hroom ?_ ?_
                  · intro ad had
                    rw [h1] at had; simp only [addrOf, Option.some.injEq] at had; subst had
                    rw [add_at, hsz]
                    simpa using hst
                  · intro hh; rw [h1] at hh; cases hh
                · unfold RelL; simp only [Fr.rp]; rw [hOm]; simp [upd_same]
            · -- a new row
              obtain ⟨ds, hds, hdcap, hdfirst⟩ := row_src (P := P) hobj
              simp only [Fr.rp] at hds hdcap hdfirst
              have hdl : ds.length = xs.length * t0.size := RdsOf_len (fun _ _ => Rd_len t0) hds
              obtain ⟨nc, hnc, hrun⟩ := append_grow (P := P) hTu hUu hi hiz hib (ty := ty) (base := addrOf (β n).1) (n := xs.length) (cap := (β n).2) hvx (cs := cs.toArray) (ds := ds.toArray) (w := w)
                (fun w' hw => by rw [hisz, hsz]; exact hfirst w' hw) (fun w' hw => by rw [hisz, hsz]; exact hdfirst w' hw) (by omega) hgl
              obtain ⟨S', h9, h10⟩ := hc.append hO hd (ys := xs ++ ys) (by simp) (pl := (some (w.heap.size, 0), nc))
                (w' := { w with drawn := w.drawn + 1, heap := w.heap.push (.cells (ds.toArray ++ cs.toArray ++ Builtin.zeroCells z.cells (nc - (xs.length + ys.length))) e) }) rfl rfl rfl (Nat.le_succ _) (by simp)
                (fun k hk _ => getElem?_push_lt _ _ _ hk) (fun b i v hsb hcl' => by rw [← hcl']; exact cellAt_block (getElem?_push_lt _ _ _ (hc.dom b i hsb)))
                (.inr ⟨w.heap.size, rfl, Nat.le_refl _, by simp⟩) (e' := e) (by
                  intro q hq hb hw
                  refine .inr ⟨w.heap.size, 0, _, ds ++ cs, (Builtin.zeroCells z.cells (nc - (xs.length + ys.length))).toList, by rw [hb], by rw [hw]; simp; rfl, by rw [hb, List.length_append]; exact hnc, by simp, ?_, ?_, by simp, ?_⟩
                  · exact RdsOf_append (RdsOf_mono (fun _ _ => Rd_mono hq.S (fun b i v hs => hq.cells b i v (.inl hs)) t0) hds) (RdsOf_mono (fun _ _ => Rd_mono hq.S (fun b i v hs => hq.cells b i v (.inl hs)) t0) hrd)
                  · rw [hb]
                    simp only [Array.size_append, List.size_toArray, List.length_append, List.append_toArray, zeroCells_size, hcl, hdl, hzs, hsz]
                    have : nc = xs.length + ys.length + (nc - (xs.length + ys.length)) := by omega
                    conv => lhs; rw [this]
                    rw [Nat.add_mul, Nat.add_mul]; omega
                  · intro v hv
                    simp only [Array.toList_append, List.toList_toArray, List.mem_append] at hv
                    rcases hv with (hv | hv) | hv
                    · exact RdsOf_one (fun _ _ => Rd_one t0) hds v hv
                    · exact hc1 v hv
                    · exact zeroCells_one hz1 _ v hv)
              refine ⟨_, _, S', _, hrun, h9, h10, .inr ?_⟩
              unfold RelL; simp only [Fr.rp]; rw [hOm]; simp [upd_same, addrOf]
        · cases h
      · cases h
  · cases h
/-- what append may change -/
theorem appendOp_upd {lk : Nat → Option AObj} {d : Nat} {T : TypeId} {s x : Lf} {av : AV} {u : Upd} (h : appendOp c lk d T s x two = some (av, u)) :
    (∃ e t zs, u = [(d * 8, .row e t zs false)] ∧ (∃ e' t', s = .nil e' t') ∧ av = .one (.row (d * 8))) ∨
    ∃ m e e2 t xs fz zs, s = .row m ∧ lk m = some (.row e2 t xs fz) ∧ u = [(m, .dead), (d * 8, .row e t zs fz)] ∧ av = .one (.row (d * 8)) := by
  unfold appendOp at h
  simp only [Option.bind_eq_some_iff] at h
  obtain ⟨te, _, h⟩ := h
  split at h
  · simp only [Option.bind_eq_some_iff] at h
    obtain ⟨ys, _, h⟩ := h
    cases hel : eltOk c T ys.1 with
    | false => rw [hel] at h; cases h
    | true =>
      rw [hel] at h; simp only [cond_true] at h
      split at h
      · rename_i e1 t1
        cases hq : Nat.beq _ e1 with
        | false => rw [hq] at h; cases h
        | true =>
          rw [hq] at h
          simp only [cond_true, bindD, Option.bind_eq_some_iff, two, Option.some.injEq, Prod.mk.injEq] at h
          obtain ⟨_, _, _, _, rfl, rfl⟩ := h
          exact .inl ⟨_, _, _, rfl, ⟨_, _, rfl⟩, rfl⟩
      · split at h
        · rename_i e1 t1 _ _ hl
          cases hq : Nat.beq _ e1 with
          | false => rw [hq] at h; cases h
          | true =>
            rw [hq] at h
            simp only [cond_true, bindD, Option.bind_eq_some_iff, two, Option.some.injEq, Prod.mk.injEq] at h
            obtain ⟨_, _, _, _, rfl, rfl⟩ := h
            exact .inr ⟨_, _, _, _, _, _, _, rfl, hl, rfl, rfl⟩
        · cases h
      · cases h
  · cases h

/-- a row gives way to a part of itself -/
theorem Core.move (h : Core F S β O w) {n m : Nat} {e : TypeId} {t : Ty} {xs ys : List t.V} (hn : O n = some (.row e t xs false)) (hm : O m = none) {pl : Place}
    (hpl : ∀ b x, pl.1 = some (b, x) → ∃ y, (β n).1 = some (b, y)) {e' : TypeId}
    (hobj : ∀ q : RP, (F.rp S β O w).le q → q.β m = pl → q.w = w → ObjR q m (.row e' t ys false)) :
    Core F S (upd β m pl) (over [(n, .dead), (m, .row e' t ys false)] O) w ∧ (F.rp S β O w).le (F.rp S (upd β m pl) (over [(n, .dead), (m, .row e' t ys false)] O) w) := by
  have hnm : n ≠ m := by rintro rfl; rw [hn] at hm; cases hm
  have hOn : over [(n, .dead), (m, .row e' t ys false)] O n = some .dead := by simp [over, lkp_cons]
  have hOm : over [(n, .dead), (m, .row e' t ys false)] O m = some (.row e' t ys false) := by simp [over, lkp_cons, Ne.symm hnm]
  have hOo : ∀ k, k ≠ n → k ≠ m → over [(n, .dead), (m, .row e' t ys false)] O k = O k := by
    intro k h1 h2
    have e0 : lkp ([] : Upd) k = none := rfl
    simp [over, lkp_cons, h1, h2, e0]
  have hother : ∀ k ok b off off', k ≠ n → k ≠ m → O k = some ok → ok.live = true → (β k).1 = some (b, off) → pl.1 = some (b, off') → False := by
    intro k ok b off off' h1 _ hk hlk hb hb'
    obtain ⟨y, hy⟩ := hpl b off' hb'
    exact h1 (h.apart k n ok _ b off y hk hn hlk rfl hb hy)
  refine h.change (fun k => k = n ∨ k = m) rfl rfl rfl (Nat.le_refl _) (Nat.le_refl _) (fun _ _ _ => rfl) (fun _ _ h => h) (fun _ _ _ _ h => h) ?_ ?_ ?_ ?_ ?_ (fun _ _ h => .inl h) h.dom ?_ ?_
  · intro k hk
    simp only [not_or] at hk
    exact ⟨hOo k hk.1 hk.2, upd_ne _ _ _ _ hk.2⟩
  · rintro k ok hk (rfl | rfl)
    · rw [hn] at hk; cases hk
      exact ⟨.dead, hOn, .inl rfl, fun h => by cases h⟩
    · rw [hm] at hk; cases hk
  · rintro le k ok hk (rfl | rfl)
    · rw [hOn] at hk; cases hk; trivial
    · rw [hOm] at hk; cases hk
      exact hobj _ le (upd_same _ _ _) rfl
  · rintro k ok b off (rfl | rfl) hk hlk hb
    · rw [hOn] at hk; cases hk; cases hlk
    · rw [upd_same] at hb
      obtain ⟨y, hy⟩ := hpl b off hb
      exact h.far n _ b y hn rfl hy
  · rintro k k' ok ok' b x y (rfl | rfl) hk hk' hlk hlk' hb hb'
    · rw [hOn] at hk; cases hk; cases hlk
    · by_cases e1 : k' = k
      · exact e1.symm
      · exfalso
        rw [upd_same] at hb
        rw [upd_ne _ _ _ _ e1] at hb'
        by_cases e2 : k' = n
        · rw [e2, hOn] at hk'; cases hk'; cases hlk'
        · rw [hOo k' e2 e1] at hk'
          exact hother k' ok' b y x e2 e1 hk' hlk' hb' hb
  · rintro b i k ok off hs hk hlk hb
    by_cases e1 : k = m
    · subst e1
      rw [upd_same] at hb
      obtain ⟨y, hy⟩ := hpl b off hb
      obtain ⟨_, _, _, h5, _⟩ := h.still b i n _ y hs hn rfl hy
      cases h5
    · rw [upd_ne _ _ _ _ e1] at hb
      by_cases e2 : k = n
      · rw [e2, hOn] at hk; cases hk; cases hlk
      · rw [hOo k e2 e1] at hk
        exact h.still b i k ok off hs hk hlk hb
  · rintro k e1 t1 xs1 b off i (rfl | rfl) hk hb h1 h2
    · rw [hOn] at hk; cases hk
    · rw [hOm] at hk; cases hk

theorem view_place {n m : Nat} {e : TypeId} {t : Ty} {xs : List t.V} {lo hi : Int} (hc : Core F S β O w) (hO : O n = some (.row e t xs false)) (hm : O m = none) (h0 : 0 ≤ lo) (h1 : lo ≤ hi) (h2 : hi ≤ xs.length) :
    Core F S (upd β m ((β n).1.map fun p => (p.1, if (β n).2 = lo.toNat then p.2 else p.2 + lo.toNat * t.size), (β n).2 - lo.toNat)) (over [(n, .dead), (m, .row e t (viewL xs lo hi) false)] O) w ∧
      (F.rp S β O w).le (F.rp S (upd β m ((β n).1.map fun p => (p.1, if (β n).2 = lo.toNat then p.2 else p.2 + lo.toNat * t.size), (β n).2 - lo.toNat)) (over [(n, .dead), (m, .row e t (viewL xs lo hi) false)] O) w) := by
  have hobj := hc.obj n _ hO
  have hcap : xs.length ≤ (β n).2 := by
    rcases hobj with ⟨h2, h3⟩ | ⟨b, o0, arr, cs, rest, h2, h3, h4, _⟩
    · subst h3; exact Nat.zero_le _
    · exact h4
  have hrl : (viewL xs lo hi).length = hi.toNat - lo.toNat := by unfold viewL; rw [List.length_drop, List.length_take]; omega
  refine hc.move hO hm (ys := viewL xs lo hi) ?_ ?_
  · intro b x hb
    cases hβ : (β n).1 with
    | none => simp [hβ] at hb
    | some p => simp [hβ] at hb; exact ⟨p.2, by rw [← hb.1]⟩
  · intro q hq hb hw
    rcases hobj with ⟨h2a, h3⟩ | ⟨b, o0, arr, cs, rest, h2', h3, h4, h7, h8, h9, h10, h11⟩
    · subst h3
      replace h2a : β n = (none, 0) := h2a
      refine .inl ⟨by rw [hb]; simp [h2a], by simp [viewL]⟩
    · replace h2' : (β n).1 = some (b, o0) := h2'
      replace h3 : w.heap[b]? = some (.cells arr e (0, 0)) := h3
      replace h4 : xs.length ≤ (β n).2 := h4
      replace h9 : o0 + (β n).2 * t.size ≤ arr.size := h9
      replace h8 : RdsOf (Rd S w t) cs xs := h8
      have hcs : cs.length = xs.length * t.size := RdsOf_len (fun _ _ => Rd_len t) h8
      by_cases hcl : (β n).2 = lo.toNat
      · have hr0 : viewL xs lo hi = [] := List.eq_nil_of_length_eq_zero (by rw [hrl]; omega)
        rw [hr0]
        refine .inr ⟨b, o0, arr, [], arr.toList.drop o0, by rw [hb]; simp [h2', hcl], by rw [hw]; exact h3, by simp, by simp, rfl, ?_, h10, h11⟩
        rw [hb]; simp only [hcl, Nat.sub_self, Nat.zero_mul]; omega
      · have e1 := List.take_append_drop hi.toNat xs
        rw [← e1] at h8
        obtain ⟨c1, d1, rfl, h12, h13⟩ := RdsOf_split _ _ h8
        have e2 := List.take_append_drop lo.toNat (xs.take hi.toNat)
        rw [← e2] at h12
        obtain ⟨c2, d2, rfl, h14, h15⟩ := RdsOf_split _ _ h12
        have hc2 : c2.length = lo.toNat * t.size := by rw [RdsOf_len (fun _ _ => Rd_len t) h14, List.length_take, List.length_take]; congr 1; omega
        have hle : o0 + (lo.toNat * t.size + ((β n).2 - lo.toNat) * t.size) ≤ arr.size := by
          have hml : lo.toNat ≤ (β n).2 := by omega
          rw [← Nat.add_mul, Nat.add_sub_cancel' hml]; exact h9
        refine .inr ⟨b, o0 + lo.toNat * t.size, arr, d2, d1 ++ rest, by rw [hb]; simp [h2', hcl], by rw [hw]; exact h3, by rw [hb]; simp only; omega, ?_, ?_, ?_, by omega, h11⟩
        · rw [← List.drop_drop, h7, List.append_assoc, List.append_assoc, ← hc2, List.drop_left]
        · exact RdsOf_mono (fun _ _ => Rd_mono hq.S (fun b i v hs => hq.cells b i v (.inl hs)) t) h15
        · rw [hb]; simp only; omega

theorem appendV_run (hE : EnvOk P c) (hc : Core F S β O w) {lk : Nat → Option AObj} (hlk : ∀ n o, lk n = some o → O n = some o) {d : Nat} {T U : TypeId} (hU : (slOk c U || strOk c U) = true) {s x : Lf} {vs vx : Value}
    (hs : s = .undef ∨ RelL (F.rp S β O w) s [vs]) (hx : x = .undef ∨ RelL (F.rp S β O w) x [vx]) {av : AV} {u : Upd} (h : appendV c lk d T s x two = some (av, u))
    (hnew : ∀ n o, (n, o) ∈ u → d * 8 ≤ n → n < d * 8 + 5 → O n = none) (ty : TypeId) :
    ∃ v w' S' β', (Builtin.append_ #[T, U] ty #[vs, vx]).run P w = .ok v w' ∧ Core F S' β' (over u O) w' ∧ (F.rp S β O w).le (F.rp S' β' (over u O) w') ∧ RelAV (F.rp S' β' (over u O) w') av v := by
  have hsu : ∀ {lk : Nat → Option AObj} {s x : Lf} {av : AV} {u : Upd}, appendOp c lk d T s x two = some (av, u) → s ≠ .undef ∧ x ≠ .undef := by
    intro lk s x av u h
    constructor
    · rintro rfl
      unfold appendOp at h
      simp only [Option.bind_eq_some_iff] at h
      obtain ⟨te, _, h⟩ := h
      split at h
      · simp only [Option.bind_eq_some_iff] at h
        obtain ⟨ys, _, h⟩ := h
        cases eltOk c T ys.1 <;> simp at h
      · cases h
    · rintro rfl
      unfold appendOp at h
      simp only [Option.bind_eq_some_iff] at h
      obtain ⟨te, _, h⟩ := h
      split at h
      · simp [rowsOf] at h
      · cases h
  unfold appendV at h
  split at h
  · rename_i n lo hi
    split at h
    · rename_i e t xs hln
      cases hdj : disjB x.names [n, d * 8 + 1] with
      | false => rw [hdj] at h; cases h
      | true =>
        rw [hdj, cond_true, appendOp_nat] at h
        simp only [Option.bind_eq_some_iff] at h
        obtain ⟨⟨av0, u0⟩, h1, h2⟩ := h
        simp only [two, Option.some.injEq, Prod.mk.injEq] at h2
        obtain ⟨rfl, rfl⟩ := h2
        obtain ⟨hs0, hx0⟩ := hsu h1
        have hO := hlk n _ hln
        have hs := hs.resolve_left (by simp)
        have hx := hx.resolve_left hx0
        unfold RelL at hs; simp only [Fr.rp] at hs; rw [hO] at hs
        obtain ⟨b0, b1, b2, hs⟩ := hs
        simp only [List.cons.injEq, and_true] at hs
        rcases appendOp_upd h1 with ⟨_, _, _, _, ⟨_, _, hh⟩, _⟩ | ⟨m, e1, e2, t1, ys, fz, zs, hm, hlm, rfl, rfl⟩
        · cases hh
        · cases hm
          have hm0 : O (d * 8 + 1) = none := hnew _ .dead (by simp) (by omega) (by omega)
          have hd0 : O (d * 8) = none := hnew (d * 8) (.row e1 t1 zs fz) (by simp) (by omega) (by omega)
          have hnm : n ≠ d * 8 + 1 := by rintro rfl; rw [hO] at hm0; cases hm0
          have hnd : n ≠ d * 8 := by rintro rfl; rw [hO] at hd0; cases hd0
          obtain ⟨hc1, le1⟩ := view_place hc hO hm0 b0 b1 b2
          have hOm : over [(n, AObj.dead), (d * 8 + 1, .row e t (viewL xs lo hi) false)] O (d * 8 + 1) = some (.row e t (viewL xs lo hi) false) := by
            simp [over, lkp_cons, hnm.symm]
          have hvl : (viewL xs lo hi).length = hi.toNat - lo.toNat := by unfold viewL; rw [List.length_drop, List.length_take]; omega
          have hrel : RelL (F.rp S (upd β (d * 8 + 1) ((β n).1.map fun p => (p.1, if (β n).2 = lo.toNat then p.2 else p.2 + lo.toNat * t.size), (β n).2 - lo.toNat)) (over [(n, AObj.dead), (d * 8 + 1, .row e t (viewL xs lo hi) false)] O) w) (.row (d * 8 + 1)) [vs] := by
            unfold RelL; simp only [Fr.rp]; rw [hOm]
            simp only [upd_same, List.cons.injEq, and_true]
            have key : (if (β n).2 = lo.toNat then addrOf (β n).1 else (addrOf (β n).1).map (·.add (lo.toNat * t.size))) = addrOf ((β n).1.map fun p => (p.1, if (β n).2 = lo.toNat then p.2 else p.2 + lo.toNat * t.size)) := by
              cases hβ : (β n).1 with
              | none => simp [addrOf]
              | some p =>
                by_cases hcl : (β n).2 = lo.toNat
                · simp [addrOf, hcl]
                · simp [addrOf, hcl, add_at]
            rw [hs, hvl]
            refine congrArg (fun A => Value.slice A (hi.toNat - lo.toNat) ((β n).2 - lo.toNat)) ?_
            exact Eq.trans (by congr) key
          obtain ⟨v, w', S', β', r1, r2, r3, r4⟩ := appendOp_run hE hc1 (lk := fun k => bif Nat.beq k (d * 8 + 1) then some (.row e t (viewL xs lo hi) false) else bif Nat.beq k n then none else lk k) (by
            intro k o hk
            cases hb : Nat.beq k (d * 8 + 1) with
            | true =>
              rw [hb] at hk; simp only [cond_true] at hk
              obtain rfl := Nat.eq_of_beq_eq_true hb
              rw [hOm]; exact hk
            | false =>
              rw [hb] at hk; simp only [cond_false] at hk
              cases hb2 : Nat.beq k n with
              | true => rw [hb2] at hk; cases hk
              | false =>
                rw [hb2] at hk; simp only [cond_false] at hk
                have e3 : k ≠ d * 8 + 1 := by rintro rfl; simp at hb
                have e4 : k ≠ n := by rintro rfl; simp at hb2
                have e0 : lkp ([] : Upd) k = none := rfl
                simp [over, lkp_cons, e3, e4, e0, hlk k o hk]) (d := d) (by
              have e0 : lkp ([] : Upd) (d * 8) = none := rfl
              simp [over, lkp_cons, hnd.symm, e0, hd0]) hU hrel (RelL_le le1 _ hx) h1 ty
          have hov : over ([(d * 8 + 1, AObj.dead), (d * 8, .row e1 t1 zs fz)] ++ [(n, .dead)]) O = over [(d * 8 + 1, AObj.dead), (d * 8, .row e1 t1 zs fz)] (over [(n, AObj.dead), (d * 8 + 1, .row e t (viewL xs lo hi) false)] O) := by
            funext k
            have e0 : lkp ([] : Upd) k = none := rfl
            simp only [List.cons_append, List.nil_append, over, lkp_cons, e0]
            by_cases g1 : k = d * 8 + 1
            · simp [g1]
            · by_cases g2 : k = d * 8
              · simp [g2]
              · by_cases g3 : k = n
                · rw [g3]; rw [g3] at g1 g2; simp [g1, g2]
                · simp [g1, g2, g3]
          rw [hov]
          refine ⟨v, w', S', β', r1, r2, ?_, r4⟩
          refine le_trans_same le1 r3 (fun k o o' ho ho' hl => ?_)
          obtain ⟨o1, q1, q2, q3⟩ := le1.obj k o ho
          obtain ⟨o2, q4, q5, q6⟩ := r3.obj k o1 q1
          rw [ho'] at q4; cases q4
          refine (q6 hl).trans (q3 ?_)
          cases o1 with
          | dead => simp only [AObj.to] at q5; subst q5; cases hl
          | _ => rfl
    · cases h
  · obtain ⟨h1, h2⟩ := hsu h
    have hd0 : O (d * 8) = none := by
      rcases appendOp_upd h with ⟨_, _, _, rfl, _, _⟩ | ⟨_, _, _, _, _, _, _, _, _, rfl, _⟩
      · exact hnew _ _ List.mem_cons_self (by omega) (by omega)
      · exact hnew _ _ (List.mem_cons_of_mem _ List.mem_cons_self) (by omega) (by omega)
    exact appendOp_run hE hc hlk hd0 hU (hs.resolve_left h1) (hx.resolve_left h2) h ty
end
end Go.Proofs.R

/- Each operation does in memory what the evaluator tells: len, min, closures, slices, literals, make. -/
namespace Go.Proofs.R
open Go
section
variable {P : Program} {c : Ctx}
variable {F : Fr} {S : CellSet} {β : Nat → Place} {O : Nat → Option AObj} {w : World} {a : Act} {σ : List (Nat × AV)} {o : Oper} {next : Act → World → Prop} {Q : Exit → Act → World → Prop}

def RelAVs (p : RP) : List AV → List Value → Prop
  | [], vs => vs = []
  | a :: as, vs => ∃ v r, vs = v :: r ∧ RelAV p a v ∧ RelAVs p as r

theorem gvs_rel (hE : EnvOk P c) {p : RP} (hs : Slots p (lkp σ) a.tmps) : ∀ {xs : List Operand} {ts : List TypeId} {as : List AV}, gvs c σ xs ts = some as → RelAVs p as (xs.map a.eval)
  | [], ts, as, h => by simp only [gvs, Option.some.injEq] at h; subst h; rfl
  | x :: xs, ts, as, h => by
    simp only [gvs, Option.bind_eq_some_iff, Option.some.injEq] at h
    obtain ⟨v, h1, vs, h2, rfl⟩ := h
    exact ⟨_, _, rfl, gv_rel hE hs h1, gvs_rel hE hs h2⟩

theorem len_run (hE : EnvOk P c) (hc : Core F S β O w) {lk : Nat → Option AObj} (hlk : ∀ n o, lk n = some o → O n = some o) {T : TypeId} {l : Lf} {n : Int} (h : lenOp c lk T l = some n) {v : Value} (hr : RelL (F.rp S β O w) l [v]) (ty : TypeId) :
    (Builtin.len_ #[T] ty #[v]).run P w = .ok (.int .i64 n) w := by
  unfold lenOp at h
  split at h
  · cases hb : strOk c T with
    | false => rw [hb] at h; cases h
    | true =>
      rw [hb] at h; simp only [cond_true, Option.some.injEq] at h; subst h
      have hu := strOk_spec hE hb
      simp only [RelL, Rd, List.cons.injEq, and_true] at hr; subst hr
      simp [Builtin.len_, run_underlying hu, goInt]
  · cases hb : slOk c T with
    | false => rw [hb] at h; cases h
    | true =>
      rw [hb] at h; simp only [cond_true, Option.some.injEq] at h; subst h
      obtain ⟨e, hu⟩ := slOk_spec hE hb
      obtain ⟨A, cp, hr, _⟩ := hr
      simp only [List.cons.injEq, and_true] at hr; subst hr
      simp [Builtin.len_, run_underlying hu, goInt]
  · cases hb : slOk c T with
    | false => rw [hb] at h; cases h
    | true =>
      rw [hb] at h; simp only [cond_true, Option.some.injEq] at h; subst h
      obtain ⟨e, hu⟩ := slOk_spec hE hb
      simp only [RelL, List.cons.injEq, and_true] at hr; subst hr
      simp [Builtin.len_, run_underlying hu, goInt]
  · rename_i n
    cases hb : slOk c T with
    | false => rw [hb] at h; cases h
    | true =>
      rw [hb] at h; simp only [cond_true] at h
      obtain ⟨e, hu⟩ := slOk_spec hE hb
      split at h
      · rename_i e0 t xs fz hl
        simp only [Option.some.injEq] at h; subst h
        have hO := hlk n _ hl
        unfold RelL at hr; simp only [Fr.rp] at hr; rw [hO] at hr
        simp only [List.cons.injEq, and_true] at hr; subst hr
        simp [Builtin.len_, run_underlying hu, goInt]
      · cases h
  · rename_i n i off
    cases hb : (slOk c T && decide (i < 0)) with
    | false => rw [hb] at h; cases h
    | true =>
      rw [hb] at h; simp only [cond_true] at h
      rw [Bool.and_eq_true] at hb
      obtain ⟨e, hu⟩ := slOk_spec hE hb.1
      have hi := of_decide_eq_true hb.2
      split at h
      · rename_i T' ls hl
        simp only [Option.some.injEq] at h; subst h
        have hO := hlk n _ hl
        unfold RelL at hr; simp only [Fr.rp] at hr; rw [hO] at hr
        obtain ⟨b', hb', hr⟩ := hr
        rw [decide_eq_true hi, cond_true] at hr
        simp only [List.cons.injEq, and_true] at hr; subst hr
        obtain ⟨N, hN⟩ : ∃ N, N = (-i).toNat := ⟨_, rfl⟩
        have h9 : -i = (N : Int) := by omega
        rw [← hN, h9]
        simp [Builtin.len_, run_underlying hu, goInt]
      · cases h
  · rename_i n
    simp only [Option.bind_eq_some_iff] at h
    obtain ⟨te, hte, h⟩ := h
    split at h
    · rename_i k e hd
      split at h
      · rename_i k0 e0 t u m hl
        simp only [Option.some.injEq] at h; subst h
        have hO := hlk n _ hl
        have hu := (hE.te T te hte).under
        rw [hd] at hu; simp only at hu
        obtain ⟨b, es, cl, h1, h2, h3, _⟩ := hc.obj n _ hO
        unfold RelL at hr; simp only [Fr.rp] at hr h1 h2; rw [hO] at hr
        obtain ⟨b', hb', hr⟩ := hr
        rw [h1] at hb'; simp only [Option.some.injEq, Prod.mk.injEq, and_true] at hb'; subst hb'
        simp only [List.cons.injEq, and_true] at hr; subst hr
        have hlen := congrArg List.length h3
        simp only [List.length_map, Array.length_toList] at hlen
        have hget : (getObj b).run P w = .ok (.map es cl) w := by simp [getObj, Sem.run, h2]
        simp [Builtin.len_, run_underlying hu, goInt, hget, hlen]
      · cases h
    · cases h
  · cases h

theorem minMax_run {op : Bool} {vs : List AV} {l : Lf} (h : minMax op vs = some l) {p : RP} {us : List Value} (hr : RelAVs p vs us) (ts : Array TypeId) (ty : TypeId) (w : World) :
    ∃ v, (if op then Builtin.min_ ts ty us.toArray else Builtin.max_ ts ty us.toArray).run P w = .ok v w ∧ RelAV p (.one l) v := by
  unfold minMax at h
  split at h
  · rename_i k x k' y
    split at h
    · rename_i e; subst e
      cases h
      obtain ⟨v1, r1, rfl, h1, v2, r2, rfl, h2, h3⟩ := hr
      simp only [RelAVs] at h3; subst h3
      obtain rfl := rel_int h1; obtain rfl := rel_int h2
      refine ⟨_, ?_, of_int _ _ _⟩
      cases op
      · simp [Builtin.max_, Builtin.max2]
      · simp [Builtin.min_, Builtin.min2]
    · cases h
  · cases h

theorem onesL_rel {p : RP} : ∀ {as : List AV} {ls : List Lf} {vs : List Value}, onesL as = some ls → RelAVs p as vs → RelLs p ls vs
  | [], ls, vs, h, hr => by
    simp only [onesL, Option.some.injEq] at h; subst h
    simp only [RelAVs] at hr; subst hr; rfl
  | x :: as, ls, vs, h, ⟨v, r, e, h1, h2⟩ => by
    subst e
    cases x with
    | one l =>
      cases l <;> simp only [onesL, Option.bind_eq_some_iff, Option.some.injEq, reduceCtorEq] at h
      all_goals (obtain ⟨ls', h3, rfl⟩ := h; exact ⟨[v], r, rfl, h1.resolve_left (by simp), onesL_rel h3 h2⟩)
    | agg ls => simp [onesL] at h
    | tup vs => simp [onesL] at h

theorem makeFunc_ok (hE : EnvOk P c) (hc : Core F S β O w) (hs : Slots (F.rp S β O w) (lkp σ) a.tmps) {f : FuncId} {first caps : Array Operand} (ho : o.op = .makeFunc (.func f) first caps) (hf : first.isEmpty = true)
    {as : List AV} (has : gvs c σ caps.toList [] = some as) {ls : List Lf} (hl : onesL as = some ls) (hn : After F S β O (over [] O) w (.one (.clo f ls)) o a next) : o.wp P a w next Q := by
  have hr := onesL_rel hl (gvs_rel hE hs has)
  refine pure_ok hc (v := .func (.func f) #[] (caps.map a.eval)) (av := .one (.clo f ls)) ?_ (.inr ⟨_, rfl, by simpa using hr⟩) hn
  have : first = #[] := by simpa using hf
  simp [execOp, ho, Instr.makeFunc, this]

def OptRel (p : RP) : Option AV → Option Value → Prop
  | none, none => True
  | some a, some u => RelAV p a u
  | _, _ => False
theorem bound_rel {p : RP} {x : Option AV} {d n : Int} (h : boundOf x d = some n) {v : Option Value} (hr : OptRel p x v) :
    (x = none ∧ v = none ∧ n = d) ∨ ∃ k, v = some (.int k n) := by
  unfold boundOf at h
  split at h
  · cases h
    cases v with
    | none => exact .inl ⟨rfl, rfl, rfl⟩
    | some u => exact hr.elim
  · cases h
    cases v with
    | none => exact hr.elim
    | some u => exact .inr ⟨_, by rw [rel_int hr]⟩
  · cases h

theorem bounds_run {isSlice : Bool} {len cap : Nat} {lo hi : Option Value} {l h : Int} (hlo : lo = none ∧ l = 0 ∨ ∃ k, lo = some (.int k l)) (hhi : hi = none ∧ h = len ∨ ∃ k, hi = some (.int k h)) (h0 : 0 ≤ l) (h1 : l ≤ h) (h2 : h ≤ len) (h3 : len ≤ cap) (w : World) :
    (Instr.sliceBounds isSlice len cap lo hi none).run P w = .ok (l.toNat, h.toNat, cap) w := by
  have hh0 : 0 ≤ h := by omega
  have hhc : h ≤ (cap : Int) := by omega
  have hcast : ((h.toNat : Nat) : Int) = h := by omega
  rcases hlo with ⟨rfl, rfl⟩ | ⟨k, rfl⟩ <;> rcases hhi with ⟨rfl, rfl⟩ | ⟨k', rfl⟩
  · simp [Instr.sliceBounds]
  · simp [Instr.sliceBounds, Instr.sliceBound, asIntOf, hh0, hhc]
  · simp [Instr.sliceBounds, Instr.sliceBound, asIntOf, h0, h1]
  · simp [Instr.sliceBounds, Instr.sliceBound, asIntOf, hh0, hhc, h0, h1, hcast]
end
end Go.Proofs.R

/- Each operation does in memory what the evaluator tells: slices of slices, literals, make. -/
namespace Go.Proofs.R
open Go
section
variable {P : Program} {c : Ctx}
variable {F : Fr} {S : CellSet} {β : Nat → Place} {O : Nat → Option AObj} {w : World} {a : Act} {σ : List (Nat × AV)} {o : Oper} {next : Act → World → Prop} {Q : Exit → Act → World → Prop}

theorem cut_eq {α : Type} (xs : List α) (l h : Nat) (hlh : l ≤ h) : xs = xs.take l ++ ((xs.take h).drop l ++ xs.drop h) := by
  conv => lhs; rw [← List.take_append_drop h xs]
  rw [← List.append_assoc]
  congr 1
  conv => lhs; rw [← List.take_append_drop l (xs.take h)]
  rw [List.take_take, Nat.min_eq_left hlh]

/-- a part of a read-only slice -/
theorem cut_rel {S : CellSet} {w : World} {t : Ty} {xs r : List t.V} {A : Option Addr} {cap : Nat} {l h : Int} (hcap : xs.length ≤ cap) (hx : xs = [] ∨ ∃ b o ds, A = some ⟨b, o, none⟩ ∧ RdsOf (Rd S w t) ds xs ∧ At S w b o ds)
    (hs : subL xs l h = some r) : 0 ≤ l ∧ l ≤ h ∧ h ≤ (xs.length : Int) ∧ Rd S w (.sl t) [.slice (if cap = l.toNat then A else A.map (·.add (l.toNat * t.size))) (h.toNat - l.toNat) (cap - l.toNat)] r := by
  unfold subL at hs
  split at hs
  · rename_i hb
    obtain ⟨h0, h1, h2⟩ := hb
    simp only [Option.some.injEq] at hs
    refine ⟨h0, h1, h2, ?_⟩
    have hlh : l.toNat ≤ h.toNat := by omega
    have hhl : h.toNat ≤ xs.length := by omega
    have hrl : r.length = h.toNat - l.toNat := by rw [← hs, List.length_drop, List.length_take, Nat.min_eq_left hhl]
    refine ⟨_, _, by rw [hrl], by rw [hrl]; omega, ?_⟩
    by_cases hr : r = []
    · exact .inl hr
    · right
      have hrp : 0 < r.length := List.length_pos_iff.2 hr
      rcases hx with rfl | ⟨b, o, ds, rfl, h3, h4⟩
      · simp at hhl; omega
      · have hne : ¬ cap = l.toNat := by omega
        rw [if_neg hne]
        have e1 := cut_eq xs l.toNat h.toNat hlh
        rw [hs] at e1
        rw [e1] at h3
        obtain ⟨c1, d1, rfl, h5, h6⟩ := RdsOf_split _ _ h3
        obtain ⟨c2, d2, rfl, h7, h8⟩ := RdsOf_split _ _ h6
        have hc1 : c1.length = l.toNat * t.size := by
          rw [RdsOf_len (fun _ _ => Rd_len t) h5, List.length_take, Nat.min_eq_left (by omega)]
        refine ⟨b, o + l.toNat * t.size, c2, by simp [add_at], h7, ?_⟩
        have := (At_append.1 (At_append.1 h4).2).1
        rw [hc1] at this; exact this
  · cases hs

theorem slice_ok (hE : EnvOk P c) (hc : Core F S β O w) (hs : Slots (F.rp S β O w) (lkp σ) a.tmps) {T : TypeId} {X : Operand} {lo hi : Option Operand} (ho : o.op = .slice T X lo hi none)
    {v : AV} (hv : gv c σ X 0 = some v) {l : Lf} (hl : one? v = some l) {lv hv' : Option AV} (hlo : optG c σ lo = some lv) (hhi : optG c σ hi = some hv')
    {lk : Nat → Option AObj} (hlk : ∀ n o, lk n = some o → O n = some o) {av : AV} {u : Upd} (h : sliceOp c lk T l lv hv' two = some (av, u))
    (hn : After F S β O (over u O) w av o a next) : o.wp P a w next Q := by
  have hopt : ∀ {x : Option Operand} {y : Option AV}, optG c σ x = some y → OptRel (F.rp S β O w) y (x.map a.eval) := by
    intro x y hxy
    cases x with
    | none => simp only [optG, Option.some.injEq] at hxy; subst hxy; trivial
    | some x =>
      simp only [optG, Option.bind_eq_some_iff, Option.some.injEq] at hxy
      obtain ⟨z, hz, rfl⟩ := hxy
      exact gv_rel hE hs hz
  have hx := fun hu => one_rel hl hu (gv_rel hE hs hv)
  unfold sliceOp at h
  split at h
  · rename_i s
    cases hb : strOk c T with
    | false => rw [hb] at h; cases h
    | true =>
      rw [hb] at h
      simp only [cond_true, Option.bind_eq_some_iff, bindD, two, Option.some.injEq, Prod.mk.injEq] at h
      obtain ⟨lw, hlw, hg, hhg, r, hr, rfl, rfl⟩ := h
      have hu := strOk_spec hE hb
      have hxs := hx (by simp)
      simp only [RelL, Rd, List.cons.injEq, and_true] at hxs
      unfold subS at hr
      split at hr
      · rename_i hbd
        obtain ⟨h0, h1, h2⟩ := hbd
        simp only [Option.some.injEq] at hr; subst hr
        have hrun := bounds_run (P := P) (isSlice := false) (len := s.size) (cap := s.size) (lo := lo.map a.eval) (hi := hi.map a.eval) (l := lw) (h := hg)
          ((bound_rel hlw (hopt hlo)).imp (fun h => ⟨h.2.1, h.2.2⟩) id) ((bound_rel hhg (hopt hhi)).imp (fun h => ⟨h.2.1, h.2.2⟩) id) h0 h1 h2 (Nat.le_refl _) w
        refine pure_ok hc (v := .string (s.extract lw.toNat hg.toNat)) ?_ (of_str _ _) hn
        simp [execOp, ho, hxs, Instr.sliceAt, Instr.slice, run_underlying hu, hrun]
      · cases hr
  · rename_i t xs
    cases hb : eltOk c T t with
    | false => rw [hb] at h; cases h
    | true =>
      rw [hb] at h
      simp only [cond_true, Option.bind_eq_some_iff, bindD, two, Option.some.injEq, Prod.mk.injEq] at h
      obtain ⟨lw, hlw, hg, hhg, r, hr, rfl, rfl⟩ := h
      obtain ⟨e, ee, hu, hee, hsz, hpos, _⟩ := eltOk_spec hE hb
      obtain ⟨A, cap, hxs, hcap, hx2⟩ := hx (by simp)
      simp only [List.cons.injEq, and_true] at hxs
      obtain ⟨h0, h1, h2, hrd⟩ := cut_rel hcap hx2 hr
      have hrun := bounds_run (P := P) (isSlice := true) (len := xs.length) (cap := cap) (lo := lo.map a.eval) (hi := hi.map a.eval) (l := lw) (h := hg)
        ((bound_rel hlw (hopt hlo)).imp (fun h => ⟨h.2.1, h.2.2⟩) id) ((bound_rel hhg (hopt hhi)).imp (fun h => ⟨h.2.1, h.2.2⟩) id) h0 h1 h2 hcap w
      refine pure_ok hc (av := .one (.v (.sl t) r)) ?_ (.inr hrd) hn
      simp [execOp, ho, hxs, Instr.sliceAt, Instr.slice, run_underlying hu, hrun, sizeOf_run (hE.te e ee hee), hsz]
  · rename_i n
    split at h
    · rename_i e0 t xs fz hln
      cases hb : eltOk c T t with
      | false => rw [hb] at h; cases h
      | true =>
        rw [hb] at h
        simp only [cond_true, Option.bind_eq_some_iff, bindD, two, Option.some.injEq, Prod.mk.injEq] at h
        obtain ⟨lw, hlw, hg, hhg, r, hr, h⟩ := h
        obtain ⟨e, ee, hu, hee, hsz, hpos, _⟩ := eltOk_spec hE hb
        have hO := hlk n _ hln
        have hxs := hx (by simp)
        unfold RelL at hxs; simp only [Fr.rp] at hxs; rw [hO] at hxs
        simp only [List.cons.injEq, and_true] at hxs
        cases hvw : (!fz && memB c.moveT (T + 2000000)) with
        | true =>
        rw [hvw] at h
        simp only [cond_true, two, Option.some.injEq, Prod.mk.injEq] at h
        obtain ⟨rfl, rfl⟩ := h
        unfold subL at hr
        split at hr
        · rename_i hbd
          obtain ⟨h0, h1, h2⟩ := hbd
          have hcap : xs.length ≤ (β n).2 := by
            rcases hc.obj n _ hO with ⟨h3, h4⟩ | ⟨_, _, _, _, _, _, _, h4, _⟩
            · subst h4; exact Nat.zero_le _
            · exact h4
          have hrun := bounds_run (P := P) (isSlice := true) (len := xs.length) (cap := (β n).2) (lo := lo.map a.eval) (hi := hi.map a.eval) (l := lw) (h := hg)
            ((bound_rel hlw (hopt hlo)).imp (fun h => ⟨h.2.1, h.2.2⟩) id) ((bound_rel hhg (hopt hhi)).imp (fun h => ⟨h.2.1, h.2.2⟩) id) h0 h1 h2 hcap w
          refine pure_ok hc (av := .one (.view n lw hg)) (v := .slice (if (β n).2 = lw.toNat then addrOf (β n).1 else (addrOf (β n).1).map (·.add (lw.toNat * t.size))) (hg.toNat - lw.toNat) ((β n).2 - lw.toNat)) ?_ (.inr ?_) hn
          · simp [execOp, ho, hxs, Instr.sliceAt, Instr.slice, run_underlying hu, hrun, sizeOf_run (hE.te e ee hee), hsz]
          · unfold RelL; simp only [Fr.rp]; rw [hO]
            exact ⟨h0, h1, h2, rfl⟩
        · cases hr
        | false =>
        rw [hvw] at h
        simp only [cond_false, two, Option.some.injEq, Prod.mk.injEq] at h
        obtain ⟨rfl, rfl⟩ := h
        obtain ⟨S', h3, h4⟩ := hc.freeze hO
        obtain ⟨hcap, h6⟩ := h3.froz_reads (upd_same _ _ _)
        have h7 : xs = [] ∨ ∃ b o ds, addrOf (β n).1 = some ⟨b, o, none⟩ ∧ RdsOf (Rd S' w t) ds xs ∧ At S' w b o ds := by
          refine h6.imp id ?_
          rintro ⟨b, o, cs, hb, h8, h9⟩
          exact ⟨b, o, cs, by rw [hb]; rfl, h8, h9⟩
        obtain ⟨h0, h1, h2, hrd⟩ := cut_rel hcap h7 hr
        have hrun := bounds_run (P := P) (isSlice := true) (len := xs.length) (cap := (β n).2) (lo := lo.map a.eval) (hi := hi.map a.eval) (l := lw) (h := hg)
          ((bound_rel hlw (hopt hlo)).imp (fun h => ⟨h.2.1, h.2.2⟩) id) ((bound_rel hhg (hopt hhi)).imp (fun h => ⟨h.2.1, h.2.2⟩) id) h0 h1 h2 hcap w
        refine wp_value (w' := w) (v := .slice (if (β n).2 = lw.toNat then addrOf (β n).1 else (addrOf (β n).1).map (·.add (lw.toNat * t.size))) (hg.toNat - lw.toNat) ((β n).2 - lw.toNat)) ?_ ?_
        · simp [execOp, ho, hxs, Instr.sliceAt, Instr.slice, run_underlying hu, hrun, sizeOf_run (hE.te e ee hee), hsz]
        · rw [over_cons, over_nil] at hn
          exact hn _ _ _ _ h3 h4 (.inr hrd)
    · cases h
  · cases h

theorem move_ok2 (hE : EnvOk P c) (hc : Core F S β O w) (hs : Slots (F.rp S β O w) (lkp σ) a.tmps) {T : TypeId} {X : Operand} {lo hi : Option Operand} (ho : o.op = .slice T X lo hi none)
    {v : AV} (hv : gv c σ X 0 = some v) {l : Lf} (hl : one? v = some l) {lv hgv : Option AV} (hlo : optG c σ lo = some lv) (hhi : optG c σ hi = some hgv)
    {lk : Nat → Option AObj} (hlk : ∀ n o, lk n = some o → O n = some o) {d : Nat} {av : AV} {u : Upd} (hd : ∀ o', (d * 8, o') ∈ u → O (d * 8) = none) (h : moveOp c lk d T l lv hgv two = some (av, u))
    (hn : After F S β O (over u O) w av o a next) : o.wp P a w next Q := by
  unfold moveOp at h
  split at h
  · rename_i n
    split at h
    · rename_i e0 t xs hln
      cases hb : eltOk c T t with
      | false => rw [hb] at h; cases h
      | true =>
        rw [hb] at h
        simp only [cond_true, Option.bind_eq_some_iff, bindD, two, Option.some.injEq, Prod.mk.injEq] at h
        obtain ⟨lw, hlw, hg, hhg, r, hr, rfl, rfl⟩ := h
        have hdn := hd _ (by simp : (d * 8, AObj.row e0 t r false) ∈ _)
        obtain ⟨e, ee, hu, hee, hsz, hpos, _⟩ := eltOk_spec hE hb
        have hO := hlk n _ hln
        have hxs := one_rel hl (by simp) (gv_rel hE hs hv)
        unfold RelL at hxs; simp only [Fr.rp] at hxs; rw [hO] at hxs
        simp only [List.cons.injEq, and_true] at hxs
        have hobj := hc.obj n _ hO
        have hopt : ∀ {x : Option Operand} {xv : Option AV}, optG c σ x = some xv → OptRel (F.rp S β O w) xv (x.map a.eval) := by
          intro x xv hx
          cases x with
          | none => simp only [optG, Option.some.injEq] at hx; subst hx; trivial
          | some x =>
            simp only [optG, Option.bind_eq_some_iff, Option.some.injEq] at hx
            obtain ⟨z, hz, rfl⟩ := hx
            exact gv_rel hE hs hz
        unfold subL at hr
        split at hr
        · rename_i hbd
          obtain ⟨h0, h1, hle2⟩ := hbd
          simp only [Option.some.injEq] at hr
          have hrr : r = (xs.take hg.toNat).drop lw.toNat := hr.symm
          have hcap : xs.length ≤ (β n).2 := by
            rcases hobj with ⟨h2, h3⟩ | ⟨b, o0, arr, cs, rest, h2, h3, h4, _⟩
            · subst h3; exact Nat.zero_le _
            · exact h4
          have hrl : r.length = hg.toNat - lw.toNat := by rw [hrr, List.length_drop, List.length_take]; omega
          have hrun := bounds_run (P := P) (isSlice := true) (len := xs.length) (cap := (β n).2) (lo := lo.map a.eval) (hi := hi.map a.eval) (l := lw) (h := hg)
            ((bound_rel hlw (hopt hlo)).imp (fun h => ⟨h.2.1, h.2.2⟩) id) ((bound_rel hhg (hopt hhi)).imp (fun h => ⟨h.2.1, h.2.2⟩) id) h0 h1 hle2 hcap w
          let pl : Place := ((β n).1.map fun p => (p.1, if (β n).2 = lw.toNat then p.2 else p.2 + lw.toNat * t.size), (β n).2 - lw.toNat)
          obtain ⟨h5, h6⟩ := hc.move hO hdn (pl := pl) (ys := r) (by
            intro b x hb
            cases hβ : (β n).1 with
            | none => simp [pl, hβ] at hb
            | some p => simp [pl, hβ] at hb; exact ⟨p.2, by rw [← hb.1]⟩) (e' := e0) (by
            intro q hq hb hw
            rcases hobj with ⟨h2, h3⟩ | ⟨b, o0, arr, cs, rest, h2, h3, h4, h7, h8, h9, h10, h11⟩
            · subst h3
              simp only [Fr.rp] at h2
              refine .inl ⟨by rw [hb]; simp [pl, h2], by rw [hrr]; simp⟩
            · simp only [Fr.rp] at h2 h3 h4 h8 h9
              have hcs : cs.length = xs.length * t.size := RdsOf_len (fun _ _ => Rd_len t) h8
              by_cases hcl : (β n).2 = lw.toNat
              · have hr0 : r = [] := List.eq_nil_of_length_eq_zero (by rw [hrl]; omega)
                subst hr0
                refine .inr ⟨b, o0, arr, [], arr.toList.drop o0, by rw [hb]; simp [pl, h2, hcl], by rw [hw]; exact h3, by simp, by simp, rfl, ?_, h10, h11⟩
                rw [hb]; simp only [pl, hcl, Nat.sub_self, Nat.zero_mul]; omega
              · have hsp : RdsOf (Rd S w t) cs (xs.take lw.toNat ++ xs.drop lw.toNat) := by rw [List.take_append_drop]; exact h8
                obtain ⟨c1, c2, rfl, h12, h13⟩ := RdsOf_split _ _ hsp
                have hsp2 : RdsOf (Rd S w t) c2 (r ++ xs.drop hg.toNat) := by
                  have : xs.drop lw.toNat = r ++ xs.drop hg.toNat := by
                    have e1 : xs.drop hg.toNat = (xs.drop lw.toNat).drop (hg.toNat - lw.toNat) := by rw [List.drop_drop]; congr 1; omega
                    rw [hrr, e1, List.drop_take, List.take_append_drop]
                  rw [← this]; exact h13
                obtain ⟨c3, c4, rfl, h14, h15⟩ := RdsOf_split _ _ hsp2
                have hc1 : c1.length = lw.toNat * t.size := by rw [RdsOf_len (fun _ _ => Rd_len t) h12, List.length_take, Nat.min_eq_left (by omega)]
                have hle : o0 + (lw.toNat * t.size + ((β n).2 - lw.toNat) * t.size) ≤ arr.size := by
                  have hml : lw.toNat ≤ (β n).2 := by omega
                  rw [← Nat.add_mul, Nat.add_sub_cancel' hml]; exact h9
                refine .inr ⟨b, o0 + lw.toNat * t.size, arr, c3, c4 ++ rest, by rw [hb]; simp [pl, h2, hcl], by rw [hw]; exact h3, by rw [hb]; simp only [pl]; omega, ?_, ?_, ?_, by omega, h11⟩
                · rw [← List.drop_drop, h7, List.append_assoc, ← hc1, List.drop_left, List.append_assoc]
                · exact RdsOf_mono (fun _ _ => Rd_mono hq.S (fun b i v hs => hq.cells b i v (.inl hs)) t) h14
                · rw [hb]; simp only [pl]; omega)
          have hOm : over [(n, AObj.dead), (d * 8, .row e0 t r false)] O (d * 8) = some (.row e0 t r false) := by
            have : n ≠ d * 8 := by rintro rfl; rw [hdn] at hO; cases hO
            simp [over, lkp_cons, this.symm]
          refine wp_value (w' := w) (v := .slice (if (β n).2 = lw.toNat then addrOf (β n).1 else (addrOf (β n).1).map (·.add (lw.toNat * t.size))) (hg.toNat - lw.toNat) ((β n).2 - lw.toNat)) ?_ (hn _ _ _ _ h5 h6 (.inr ?_))
          · simp [execOp, ho, hxs, Instr.sliceAt, Instr.slice, run_underlying hu, hrun, sizeOf_run (hE.te e ee hee), hsz]
          · unfold RelL; simp only [Fr.rp]; rw [hOm]
            simp only [upd_same, List.cons.injEq, and_true, pl]
            rw [hrl]
            congr 1
            cases hβ : (β n).1 with
            | none => simp [addrOf]
            | some p =>
              by_cases hcl : (β n).2 = lw.toNat
              · simp [addrOf, hcl]
              · simp [addrOf, hcl, add_at]
        · cases hr
    · exact slice_ok hE hc hs ho hv hl hlo hhi hlk h hn
  · exact slice_ok hE hc hs ho hv hl hlo hhi hlk h hn

/-! ### slice literals -/
theorem mkParts_get {α : Type} (z : α) (ps : List (Nat × α)) : ∀ (n k j : Nat), (mkParts z ps n k)[j]? = if j < n then some ((lkp ps (k + j)).getD z) else none
  | 0, k, j => by simp [mkParts]
  | n + 1, k, 0 => by simp [mkParts]
  | n + 1, k, j + 1 => by
    simp only [mkParts, List.getElem?_cons_succ, mkParts_get z ps n (k + 1) j]
    rw [show k + 1 + j = k + (j + 1) from by omega]
    by_cases h : j < n <;> simp [h]

theorem lkp_none {α : Type} : ∀ {ps : List (Nat × α)} {i : Nat}, memB (ps.map (·.1)) i = false → lkp ps i = none
  | [], _, _ => rfl
  | (j, a) :: ps, i, h => by
    simp only [List.map_cons, memB, Bool.or_eq_false_iff] at h
    rw [lkp_cons]
    have : i ≠ j := by rintro rfl; simp at h
    rw [if_neg this]; exact lkp_none h.2

theorem setAll_get {α : Type} : ∀ (qs : List (Nat × α)) (xs : List α) (j : Nat), nodupB (qs.map (·.1)) = true → (setAll xs qs)[j]? = match lkp qs j with | some a => if j < xs.length then some a else none | none => xs[j]?
  | [], xs, j, _ => rfl
  | (i, a) :: qs, xs, j, h => by
    simp only [List.map_cons, nodupB, Bool.and_eq_true, Bool.not_eq_true'] at h
    rw [setAll, setAll_get qs _ j h.2, lkp_cons]
    by_cases hj : j = i
    · subst hj
      rw [lkp_none h.1]
      simp [List.getElem?_set]
    · rw [if_neg hj]
      cases lkp qs j with
      | none => simp [List.getElem?_set, Ne.symm hj]
      | some b => simp

theorem mkParts_eq {α : Type} {z : α} {qs : List (Nat × α)} {n : Nat} (h : nodupB (qs.map (·.1)) = true) : mkParts z qs n 0 = setAll (List.replicate n z) qs := by
  apply List.ext_getElem?
  intro j
  rw [mkParts_get, setAll_get _ _ _ h, Nat.zero_add]
  cases lkp qs j with
  | none => simp [List.getElem?_replicate]
  | some a => simp

theorem zeroCells_add (z : Array Value) (m n : Nat) : (Builtin.zeroCells z (m + n)).toList = (Builtin.zeroCells z m).toList ++ (Builtin.zeroCells z n).toList := by
  simp only [Builtin.zeroCells, Array.toList_map, Array.toList_range]
  rw [Nat.add_mul, List.range_add, List.map_append]
  congr 1
  rw [List.map_map]
  apply List.map_congr_left
  intro i _
  simp only [Function.comp]
  rw [show (m * z.size + i) % z.size = i % z.size from by rw [Nat.mul_comm, Nat.mul_add_mod]]

theorem zeroCells_one_eq (z : Array Value) : (Builtin.zeroCells z 1).toList = z.toList := by
  apply List.ext_getElem?
  intro i
  simp only [Builtin.zeroCells, Array.toList_map, Array.toList_range, Nat.one_mul]
  by_cases h : i < z.size
  · simp [h, Nat.mod_eq_of_lt h]
  · simp [h]

theorem zeroCells_reads {S : CellSet} {w : World} {t : Ty} {z : Array Value} {x : t.V} (h : Rd S w t z.toList x) : ∀ n, RdsOf (Rd S w t) (Builtin.zeroCells z n).toList (List.replicate n x)
  | 0 => by simp [Builtin.zeroCells, RdsOf]
  | n + 1 => by
    rw [Nat.add_comm, zeroCells_add, ← List.replicate_append_replicate]
    exact RdsOf_append ⟨z.toList, [], by simp [zeroCells_one_eq], h, rfl⟩ (zeroCells_reads h n)

/-- typed parts, as they stand in memory -/
theorem fillTyped {p q : RP} {lk : Nat → Option AObj} (hop : Opens p q lk) {t : Ty} {n : Nat} : ∀ {as : List (Nat × AV)} {vs : List (Nat × Value)} {qs : List (Nat × t.V)} {arr : Array Value} {xs : List t.V},
    typedParts t lk n as = some qs → PartsR p as vs → RdsOf (Rd q.S q.w t) arr.toList xs → xs.length = n →
    ∃ arr' : Array Value, Instr.fill (fun i => some (i * t.size, t.size)) arr vs = some arr' ∧ RdsOf (Rd q.S q.w t) arr'.toList (setAll xs qs)
  | [], vs, qs, arr, xs, h, hv, hr, hn => by
    simp only [typedParts, Option.some.injEq] at h; subst h
    simp only [PartsR] at hv; subst hv
    exact ⟨arr, rfl, hr⟩
  | (i, av) :: as, _, qs, arr, xs, h, ⟨v, r, e, h1, h2⟩, hr, hn => by
    subst e
    simp only [typedParts] at h
    cases hb : Nat.blt i n with
    | false => rw [hb] at h; cases h
    | true =>
      rw [hb] at h
      simp only [cond_true, Option.bind_eq_some_iff] at h
      obtain ⟨as', has, ls, hls, ⟨x, rest⟩, hx, h⟩ := h
      have hin : i < n := by simpa using hb
      simp only at h
      split at h
      · simp only [Option.bind_eq_some_iff, Option.some.injEq] at h
        obtain ⟨qs', hqs, rfl⟩ := h
        have hrv := resolveL_rel hop _ hls (leafs_rel has h1)
        obtain ⟨cx, dx, ex, hrx, hdx⟩ := toTy_rel t hx hrv
        simp only [RelLs] at hdx; subst hdx
        rw [List.append_nil] at ex
        rw [← ex] at hrx
        have hget : xs[i]? = some (xs[i]'(by omega)) := List.getElem?_eq_getElem _
        obtain ⟨x1, d1, r1, e1, l1, hd, hput⟩ := RdsOf_put (fun _ _ => Rd_len t) hr hget hrx
        have hdl : d1.length = t.size := Rd_len t hd
        have hvl : v.cells.size = t.size := by simpa using Rd_len t hrx
        have hlen : arr.size = i * t.size + (t.size + r1.length) := by
          have := congrArg List.length e1
          simp only [Array.length_toList, List.length_append] at this
          omega
        obtain ⟨arr1, h5, h6, _⟩ := fill_step (fun i => some (i * t.size, t.size)) arr i v r (off := i * t.size) (size := t.size) rfl hvl (by omega)
        have e2 : arr1.toList = x1 ++ (v.cells.toList ++ r1) := by
          rw [h6, e1, List.take_left' l1, ← l1]
          conv => lhs; rhs; rhs; rw [← hdl, ← List.length_append, ← List.append_assoc x1 d1 r1, List.drop_left]
        obtain ⟨arr', h7, h8⟩ := fillTyped hop hqs h2 (arr := arr1) (xs := xs.set i x) (by rw [e2]; exact hput) (by simpa using hn)
        exact ⟨arr', by rw [h5]; exact h7, h8⟩
      · cases h
end
end Go.Proofs.R

/- Each operation does in memory what the evaluator tells: slice literals, make. -/
namespace Go.Proofs.R
open Go
section
variable {P : Program} {c : Ctx}
variable {F : Fr} {S : CellSet} {β : Nat → Place} {O : Nat → Option AObj} {w : World} {a : Act} {σ : List (Nat × AV)} {o : Oper} {next : Act → World → Prop} {Q : Exit → Act → World → Prop}

theorem zero_reads {t : Ty} {ee : TE} {z : Value} {x : t.V} {r : List Lf} (h : toTy t ee.z = some (x, r)) (hz : ∀ p : RP, RelLs p ee.z z.cells.toList) (hs : z.cells.size = ee.sz) (ht : ee.sz = t.size) (p : RP) : Rd p.S p.w t z.cells.toList x := by
  obtain ⟨cx, d, e, h1, _⟩ := toTy_rel t h (hz p)
  have h2 : cx.length = t.size := Rd_len t h1
  have h3 : z.cells.toList.length = t.size := by simp [hs, ht]
  rw [e, List.length_append, h2] at h3
  have : d = [] := List.eq_nil_of_length_eq_zero (by omega)
  subst this
  rw [e, List.append_nil]; exact h1

theorem fill_size (place : Nat → Option (Nat × Nat)) : ∀ (vs : List (Nat × Value)) (arr arr' : Array Value), Instr.fill place arr vs = some arr' → arr'.size = arr.size
  | [], arr, arr', h => by simp only [Instr.fill, Option.some.injEq] at h; subst h; rfl
  | (i, v) :: vs, arr, arr', h => by
    unfold Instr.fill at h
    split at h
    · cases h
    · rename_i off size hp
      split at h
      · cases h
      · rename_i hb
        simp only [Bool.or_eq_true, decide_eq_true_eq, not_or, Decidable.not_not, ne_eq] at hb
        have := fill_size place vs _ arr' h
        rw [this]
        have h2 := congrArg List.length (foldl_cells off v.cells.toList 0 arr (by simp; omega))
        rw [← Array.foldl_toList, Array.toList_zipIdx]
        simp only [List.length_append, List.length_take, List.length_drop, Array.length_toList, Nat.add_zero] at h2
        rw [h2]; omega

theorem fill_one (place : Nat → Option (Nat × Nat)) : ∀ (vs : List (Nat × Value)) (arr arr' : Array Value), Instr.fill place arr vs = some arr' → (∀ v ∈ arr.toList, v.oneCell' = true) → (∀ x ∈ vs, ∀ v ∈ x.2.cells.toList, v.oneCell' = true) → ∀ v ∈ arr'.toList, v.oneCell' = true
  | [], arr, arr', h, h1, _ => by simp only [Instr.fill, Option.some.injEq] at h; subst h; exact h1
  | (i, v) :: vs, arr, arr', h, h1, h2 => by
    unfold Instr.fill at h
    split at h
    · cases h
    · rename_i off size hp
      split at h
      · cases h
      · rename_i hb
        simp only [Bool.or_eq_true, decide_eq_true_eq, not_or, Decidable.not_not, ne_eq] at hb
        refine fill_one place vs _ arr' h ?_ (fun x hx => h2 x (List.mem_cons_of_mem _ hx))
        rw [← Array.foldl_toList, Array.toList_zipIdx]
        rw [foldl_cells off v.cells.toList 0 arr (by simp; omega)]
        intro u hu
        simp only [List.mem_append] at hu
        rcases hu with hu | hu | hu
        · exact h1 u (List.mem_of_mem_take hu)
        · exact h2 (i, v) List.mem_cons_self u hu
        · exact h1 u (List.mem_of_mem_drop hu)

theorem parts_one {p : RP} {lk : Nat → Option AObj} {t : Ty} {n : Nat} : ∀ {as : List (Nat × AV)} {vs : List (Nat × Value)} {qs : List (Nat × t.V)}, typedParts t lk n as = some qs → PartsR p as vs → ∀ x ∈ vs, ∀ v ∈ x.2.cells.toList, v.oneCell' = true
  | [], vs, _, _, hv => by simp only [PartsR] at hv; subst hv; simp
  | (i, av) :: as, _, qs, h, ⟨v, r, e, h1, h2⟩ => by
    subst e
    simp only [typedParts] at h
    cases hb : Nat.blt i n with
    | false => rw [hb] at h; cases h
    | true =>
      rw [hb] at h
      simp only [cond_true, Option.bind_eq_some_iff] at h
      obtain ⟨as', has, ls, hls, ⟨x, rest⟩, hx, h⟩ := h
      simp only at h
      split at h
      · simp only [Option.bind_eq_some_iff, Option.some.injEq] at h
        obtain ⟨qs', hqs, rfl⟩ := h
        intro y hy
        rcases List.mem_cons.1 hy with rfl | hy
        · exact RelLs_cells _ (leafs_rel has h1)
        · exact parts_one hqs h2 y hy
      · cases h

theorem setAll_len {α : Type} : ∀ (qs : List (Nat × α)) (xs : List α), (setAll xs qs).length = xs.length
  | [], _ => rfl
  | (i, a) :: qs, xs => by rw [setAll, setAll_len qs]; simp

theorem buildSlice_ok (hE : EnvOk P c) (hc : Core F S β O w) (hs : Slots (F.rp S β O w) (lkp σ) a.tmps) {T : TypeId} {n : Nat} {ps : Array (Nat × Operand)} (ho : o.op = .buildSlice T n ps) {te : TE} (ht : lkp c.te T = some te)
    {e : TypeId} (hd : te.d = .slice e) {t : Ty} (hel : eltOk c T t = true) (hn2 : Nat.ble (n * t.size) 16777216 = true) {ee : TE} (hee : lkp c.te e = some ee) {z : t.V × List Lf} (hz : toTy t ee.z = some z)
    {ty : Nat → TypeId} {as : List (Nat × AV)} (has : partsOf c σ ty ps.toList = some as) {lk : Nat → Option AObj} (hlk : ∀ n o, lk n = some o → O n = some o) {qs : List (Nat × t.V)} (hqs : typedParts t (rowLk lk (as.flatMap fun p => p.2.names)) n as = some qs)
    (hnd : nodupB (qs.map (·.1)) = true) {d : Nat} (hnew : O d = none)
    (hn : After F S β O (over ((d, .row e t (mkParts z.1 qs n 0) false) :: freezes lk (as.flatMap fun p => p.2.names)) O) w (.one (.row d)) o a next) : o.wp P a w next Q := by
  obtain ⟨e', ee', hTu, hee', hsz, hpos, te', hte', hde'⟩ := eltOk_spec hE hel
  rw [ht] at hte'; cases hte'
  rw [hd] at hde'; cases hde'
  rw [hee] at hee'; cases hee'
  obtain ⟨i, zv, hi, hisz, hib, hiz, hzr, hz1, hzs⟩ := (hE.te e ee hee).info
  obtain ⟨S1, hc1, le1, _, _, hop⟩ := freezes_opens hc hlk (as.flatMap fun p => p.2.names)
  have hparts := partsOf_rel hE hs has
  have hzrd : Rd (F.rp S1 β (over (freezes lk (as.flatMap fun p => p.2.names)) O) w).S (F.rp S1 β (over (freezes lk (as.flatMap fun p => p.2.names)) O) w).w t zv.cells.toList z.1 :=
    zero_reads (r := z.2) (by rw [hz]) hzr hzs hsz _
  obtain ⟨arr, hfill, hrd⟩ := fillTyped hop hqs hparts (arr := Builtin.zeroCells zv.cells n) (zeroCells_reads hzrd n) (by simp)
  have hsize : arr.size = n * t.size := by
    rw [fill_size _ _ _ _ hfill, zeroCells_size, hzs, hsz]
  have hone := fill_one _ _ _ _ hfill (zeroCells_one hz1 n) (parts_one hqs hparts)
  have hnew1 : over (freezes lk (as.flatMap fun p => p.2.names)) O d = none := by
    cases h : over (freezes lk (as.flatMap fun p => p.2.names)) O d with
    | none => rfl
    | some o1 =>
      exfalso
      have : ∀ (ns : List Nat), over (freezes lk ns) O d = none := by
        intro ns
        induction ns with
        | nil => exact hnew
        | cons m ns ih =>
          unfold freezes
          split
          · rename_i e0 t0 xs0 hm
            rw [over_cons]
            have : d ≠ m := by rintro rfl; rw [hlk _ _ hm] at hnew; cases hnew
            rw [upd_ne _ _ _ _ this]; exact ih
          · exact ih
      rw [this] at h; cases h
  rw [mkParts_eq hnd] at hn
  obtain ⟨h1, h2⟩ := hc1.new hnew1 (.row e t (setAll (List.replicate n z.1) qs) false) (by intro _ _ _ hh; cases hh) (.cells arr e (0, 0)) n (by
    intro q hq hb hw
    refine .inr ⟨w.heap.size, 0, arr, arr.toList, [], by rw [hb], hw, by rw [hb, setAll_len]; simp, by simp, RdsOf_mono (fun _ _ => Rd_mono hq.S (fun b i v hs => hq.cells b i v (.inl hs)) t) hrd, by rw [hb]; simp [hsize], by simp, hone⟩)
  refine wp_value (v := .slice (some ⟨w.heap.size, 0, none⟩) n n) (w' := { w with heap := w.heap.push (.cells arr e (0, 0)) }) ?_ ?_
  · have hbig : ¬ (n * ee.sz > 16777216) := by rw [hsz]; have := Nat.le_of_ble_eq_true hn2; omega
    have hps : ((ps.map fun x => match x with | (i, x) => (i, a.eval x)).toList) = ps.toList.map fun x => (x.1, a.eval x.2) := by simp
    have hzc : (if n * t.size = 0 then (#[] : Array Value) else zv.cells) = zv.cells ∨ n = 0 := by
      by_cases h0 : n = 0
      · exact .inr h0
      · left; rw [if_neg]; exact Nat.mul_ne_zero h0 (by omega)
    simp only [execOp, ho, Instr.buildSlice, Sem.run_bind, run_underlying hTu, Result.andThen_ok, sizeOf_run (hE.te e ee hee), Sem.run_ite]
    rw [if_neg (by simpa using hbig), hsz]
    by_cases h0 : n * t.size = 0
    · have hn0 : n = 0 := by
        rcases Nat.mul_eq_zero.1 h0 with h | h
        · exact h
        · omega
      subst hn0
      rw [if_pos h0]
      simp only [Sem.run_pure, Result.andThen_ok]
      rw [hps]
      have e1 : ((Array.range (0 * t.size)).map fun x => (#[] : Array Value)[x % (#[] : Array Value).size]!) = Builtin.zeroCells zv.cells 0 := by simp [Builtin.zeroCells]
      rw [e1, hfill]
      simp [newRow]
    · rw [if_neg h0]
      simp only [Sem.run_bind, zeroValue, typeInfo, run_program, Result.andThen_ok, hi, Sem.run_pure, hiz]
      rw [hps]
      have e1 : ((Array.range (n * t.size)).map fun x => zv.cells[x % zv.cells.size]!) = Builtin.zeroCells zv.cells n := by
        rw [← hsz, ← hzs]; rfl
      rw [e1, hfill]
      simp [newRow]
  · rw [over_cons] at hn
    refine hn _ _ _ _ h1 (le_trans_same le1 h2 ?_) (.inr ?_)
    · intro m o1 o2 ho1 _ _
      simp only [Fr.rp] at ho1 ⊢
      exact upd_ne _ _ _ _ (by rintro rfl; rw [hnew] at ho1; cases ho1)
    · unfold RelL; simp only [Fr.rp, upd_same]
      simp [setAll_len, addrOf]

theorem buildArr_ok (hE : EnvOk P c) (hc : Core F S β O w) (hs : Slots (F.rp S β O w) (lkp σ) a.tmps) {T : TypeId} {ps : Array (Nat × Operand)} (ho : o.op = .build T ps) {te : TE} (ht : lkp c.te T = some te) {m : Nat} {e : TypeId} (hd : te.d = .arr m e)
    {t : Ty} {zs : List t.V} (hz : te.z = [.v (.arr m t) zs]) {ee : TE} (hee : lkp c.te e = some ee) (hsz1 : ee.sz = 1) (hsc : scal t = true)
    {ty : Nat → TypeId} {as : List (Nat × AV)} (has : partsOf c σ ty ps.toList = some as) {qs : List (Nat × t.V)} (hqs : typedParts t (fun _ => none) m as = some qs)
    (hn : After F S β O (over [] O) w (.agg [.v (.arr m t) (setAll zs qs)]) o a next) : o.wp P a w next Q := by
  have hT := hE.te T te ht
  obtain ⟨i0, zv, hi, _, _, hiz, hzr, hz1, _⟩ := hT.info
  have hu := hT.under
  rw [hd] at hu; simp only at hu
  have hparts := partsOf_rel hE hs has
  have h0 := hzr (F.rp S β O w)
  rw [hz] at h0
  obtain ⟨c0, d0, e0, h1, h2⟩ := h0
  simp only [RelLs] at h2; subst h2
  rw [List.append_nil] at e0
  unfold RelL at h1
  obtain ⟨h3, h4⟩ := h1
  rw [← e0] at h4
  have hop : Opens (F.rp S β O w) (F.rp S β O w) (fun _ => none) := ⟨fun _ _ h => h, fun _ _ _ _ h => h, fun _ _ h => .inl h, (fun _ _ _ _ _ h => by cases h), fun _ _ _ h => by cases h⟩
  obtain ⟨arr', hfill, hrd⟩ := fillTyped hop hqs hparts h4 h3
  refine pure_ok hc (v := .agg arr') (av := .agg [.v (.arr m t) (setAll zs qs)]) ?_ ⟨arr', rfl, ⟨arr'.toList, [], by simp, ⟨by rw [setAll_len]; exact h3, hrd⟩, rfl⟩⟩ hn
  rw [scal_size hsc] at hfill
  have hsr := sizeOf_run (hE.te e ee hee) w
  rw [hsz1] at hsr
  simp only [execOp, ho, Instr.build, Sem.run_bind, zeroValue, typeInfo, run_program, Result.andThen_ok, hi, Sem.run_pure, hiz, run_underlying hu]
  rw [show (sizeOf e).run P w = .ok 1 w from hsr]
  simp only [Result.andThen_ok]
  rw [show ((ps.map fun x => match x with | (i, x) => (i, a.eval x)).toList) = ps.toList.map fun x => (x.1, a.eval x.2) from by simp]
  rw [hfill]
  rfl

theorem wrap_id {n : Int} (h0 : 0 ≤ n) (h1 : n ≤ 4294967296) : IntKind.i64.wrap n = n := by
  have := IntKind.wrap_i64 n
  rw [this]; omega

theorem makeSlice_ok (hE : EnvOk P c) (hc : Core F S β O w) (hs : Slots (F.rp S β O w) (lkp σ) a.tmps) {T : TypeId} {X Y : Operand} (ho : o.op = .makeSlice T X Y) {te : TE} (ht : lkp c.te T = some te)
    {e : TypeId} (hd : te.d = .slice e) {t : Ty} (hel : eltOk c T t = true) {ee : TE} (hee : lkp c.te e = some ee) {z : t.V × List Lf} (hz : toTy t ee.z = some z)
    {x y : AV} (hx : gv c σ X 0 = some x) (hy : gv c σ Y 0 = some y) {n m : Int} (hxn : intOf? x = some n) (hym : intOf? y = some m) {len : Nat} (hlen : mkLen n m = some len) {d : Nat} (hnew : O d = none)
    (hn : After F S β O (over [(d, .row e t (List.replicate len z.1) false)] O) w (.one (.row d)) o a next) : o.wp P a w next Q := by
  obtain ⟨e', ee', hTu, hee', hsz, hpos, te', hte', hde'⟩ := eltOk_spec hE hel
  rw [ht] at hte'; cases hte'
  rw [hd] at hde'; cases hde'
  rw [hee] at hee'; cases hee'
  obtain ⟨i, zv, hi, hisz, hib, hiz, hzr, hz1, hzs⟩ := (hE.te e ee hee).info
  obtain ⟨k1, hX⟩ := int_rel hxn (gv_rel hE hs hx)
  obtain ⟨k2, hY⟩ := int_rel hym (gv_rel hE hs hy)
  unfold mkLen at hlen
  split at hlen
  · rename_i hb
    obtain ⟨h0, h1, h2⟩ := hb
    simp only [Option.some.injEq] at hlen
    have h2' : m ≤ 4294967296 := by simpa [mostLen] using h2
    have hzrd : ∀ p : RP, Rd p.S p.w t zv.cells.toList z.1 := fun p => zero_reads (r := z.2) (by rw [hz]) hzr hzs hsz p
    have hml : m.toNat = len + (m.toNat - len) := by omega
    obtain ⟨h3, h4⟩ := hc.new hnew (.row e t (List.replicate len z.1) false) (by intro _ _ _ hh; cases hh) (.cells (Builtin.zeroCells zv.cells m.toNat) e (0, 0)) m.toNat (by
      intro q hq hb hw
      refine .inr ⟨w.heap.size, 0, _, (Builtin.zeroCells zv.cells len).toList, (Builtin.zeroCells zv.cells (m.toNat - len)).toList, by rw [hb], hw, by rw [hb]; simp; omega, ?_, zeroCells_reads (hzrd q) len, ?_, by simp, zeroCells_one hz1 _⟩
      · conv => lhs; rw [hml, zeroCells_add]
        simp
      · rw [hb]; simp [zeroCells_size, hzs, hsz])
    refine wp_value (v := .slice (some ⟨w.heap.size, 0, none⟩) len m.toNat) (w' := { w with heap := w.heap.push (.cells (Builtin.zeroCells zv.cells m.toNat) e (0, 0)) }) ?_ ?_
    · have w1 := wrap_id h0 (by omega : n ≤ 4294967296)
      have w2 := wrap_id (by omega : 0 ≤ m) h2'
      have hbig : ¬ ((i.bytes : Int) * m > 2 ^ 48) := by
        have : (i.bytes : Int) * m ≤ 8192 * 4294967296 := Int.mul_le_mul (by omega) h2' (by omega) (by omega)
        omega
      have hc1 : (decide (m < 0) || decide ((i.bytes : Int) * m > 2 ^ 48) || decide (n < 0) || decide (n > m)) = false := by
        simp only [Bool.or_eq_false_iff, decide_eq_false_iff_not]
        exact ⟨⟨⟨by omega, hbig⟩, by omega⟩, by omega⟩
      simp only [execOp, ho, hX, hY, Instr.makeSlice, Sem.run_bind, run_underlying hTu, Result.andThen_ok, asInt, asIntOf, Sem.run_pure, typeInfo, run_program, hi, w1, w2, Sem.run_ite]
      rw [if_neg (by simpa using hc1)]
      simp only [run_askRoom, Result.andThen_ok, sizeOf_run (hE.te e ee hee)]
      by_cases h5 : m.toNat * ee.sz = 0
      · have h6 : m.toNat = 0 := by
          rcases Nat.mul_eq_zero.1 h5 with h | h
          · exact h
          · omega
        rw [if_pos h5]
        have e1 : ((Array.range (m.toNat * ee.sz)).map fun x => (#[] : Array Value)[x % (#[] : Array Value).size]!) = Builtin.zeroCells zv.cells m.toNat := by rw [h6]; simp [Builtin.zeroCells]
        rw [e1]
        simp [newRow, hlen]
      · rw [if_neg h5]
        have hzv : (zeroValue e).run P w = .ok zv w := by simp [zeroValue, typeInfo, hi, hiz]
        rw [hzv]
        simp only [Result.andThen_ok]
        have e1 : ((Array.range (m.toNat * ee.sz)).map fun x => zv.cells[x % zv.cells.size]!) = Builtin.zeroCells zv.cells m.toNat := by rw [← hzs]; rfl
        rw [e1]
        simp [newRow, hlen]
    · rw [over_cons, over_nil] at hn
      refine hn _ _ _ _ h3 h4 (.inr ?_)
      unfold RelL; simp only [Fr.rp, upd_same]
      simp [addrOf]
  · cases hlen

theorem zeroCells_rel {p : RP} {zs : Array Value} {ls : List Lf} (h : RelLs p ls zs.toList) : ∀ n, RelLs p (List.replicate n ls).flatten (Builtin.zeroCells zs n).toList
  | 0 => by simp [Builtin.zeroCells, RelLs]
  | n + 1 => by
    have h1 : (Builtin.zeroCells zs 1).toList = zs.toList := zeroCells_one_eq zs
    have h2 : (Builtin.zeroCells zs (n + 1)).toList = (Builtin.zeroCells zs 1).toList ++ (Builtin.zeroCells zs n).toList := by rw [Nat.add_comm, zeroCells_add]
    rw [h2, h1, List.replicate_succ, List.flatten_cons]
    exact RelLs_append h (zeroCells_rel h n)

/-- a row of values that are not told: its cells are leafs -/
theorem makeTab_ok (hE : EnvOk P c) (hc : Core F S β O w) (hs : Slots (F.rp S β O w) (lkp σ) a.tmps) {T : TypeId} {X Y : Operand} (ho : o.op = .makeSlice T X Y) {te : TE} (ht : lkp c.te T = some te)
    {e : TypeId} (hd : te.d = .slice e) {ee : TE} (hee : lkp c.te e = some ee)
    {x y : AV} (hx : gv c σ X 0 = some x) (hy : gv c σ Y 0 = some y) {n m : Int} (hxn : intOf? x = some n) (hym : intOf? y = some m) (hnm : n = m) (hpos : 0 < n) {len : Nat} (hlen : mkLen n m = some len) {d : Nat} (hnew : O d = none)
    (hn : After F S β O (over [(d, .box e (List.replicate len ee.z).flatten)] O) w (.one (.eref d (-(len : Int)) 0)) o a next) : o.wp P a w next Q := by
  subst hnm
  have hTu := (hE.te T te ht).under
  rw [hd] at hTu
  simp only at hTu
  obtain ⟨i, zv, hi, hisz, hib, hiz, hzr, hz1, hzs⟩ := (hE.te e ee hee).info
  obtain ⟨k1, hX⟩ := int_rel hxn (gv_rel hE hs hx)
  obtain ⟨k2, hY⟩ := int_rel hym (gv_rel hE hs hy)
  unfold mkLen at hlen
  split at hlen
  · rename_i hb
    obtain ⟨h0, h1, h2⟩ := hb
    simp only [Option.some.injEq] at hlen
    have h2' : n ≤ 4294967296 := by simpa [mostLen] using h2
    subst hlen
    obtain ⟨h3, h4⟩ := hc.new hnew (.box e (List.replicate n.toNat ee.z).flatten) (by intro _ _ _ hh; cases hh) (.cells (Builtin.zeroCells zv.cells n.toNat) e (0, 0)) 0 (by
      intro q hq hb hw
      exact ⟨w.heap.size, _, by rw [hb], hw, zeroCells_rel (hzr q) _⟩)
    refine wp_value (v := .slice (some ⟨w.heap.size, 0, none⟩) n.toNat n.toNat) (w' := { w with heap := w.heap.push (.cells (Builtin.zeroCells zv.cells n.toNat) e (0, 0)) }) ?_ ?_
    · have w1 := wrap_id h0 h2'
      have w2 := wrap_id h0 h2'
      have hbig : ¬ ((i.bytes : Int) * n > 2 ^ 48) := by
        have : (i.bytes : Int) * n ≤ 8192 * 4294967296 := Int.mul_le_mul (by omega) h2' (by omega) (by omega)
        omega
      have hc1 : (decide (n < 0) || decide ((i.bytes : Int) * n > 2 ^ 48) || decide (n < 0) || decide (n > n)) = false := by
        simp only [Bool.or_eq_false_iff, decide_eq_false_iff_not]
        exact ⟨⟨⟨by omega, hbig⟩, by omega⟩, by omega⟩
      simp only [execOp, ho, hX, hY, Instr.makeSlice, Sem.run_bind, run_underlying hTu, Result.andThen_ok, asInt, asIntOf, Sem.run_pure, typeInfo, run_program, hi, w1, w2, Sem.run_ite]
      rw [if_neg (by simpa using hc1)]
      simp only [run_askRoom, Result.andThen_ok, sizeOf_run (hE.te e ee hee)]
      by_cases h5 : n.toNat * ee.sz = 0
      · rw [if_pos h5]
        have h6 : ee.sz = 0 := by
          rcases Nat.mul_eq_zero.1 h5 with h | h
          · omega
          · exact h
        have h7 : zv.cells = #[] := by
          apply Array.eq_empty_of_size_eq_zero; rw [hzs, h6]
        have e1 : ((Array.range (n.toNat * ee.sz)).map fun x => (#[] : Array Value)[x % (#[] : Array Value).size]!) = Builtin.zeroCells zv.cells n.toNat := by rw [h6, h7]; simp [Builtin.zeroCells]
        rw [e1]
        simp [newRow]
      · rw [if_neg h5]
        have hzv : (zeroValue e).run P w = .ok zv w := by simp [zeroValue, typeInfo, hi, hiz]
        rw [hzv]
        simp only [Result.andThen_ok]
        have e1 : ((Array.range (n.toNat * ee.sz)).map fun x => zv.cells[x % zv.cells.size]!) = Builtin.zeroCells zv.cells n.toNat := by rw [← hzs]; rfl
        rw [e1]
        simp [newRow]
    · rw [over_cons, over_nil] at hn
      refine hn _ _ _ _ h3 h4 (.inr ?_)
      unfold RelL; simp only [Fr.rp, upd_same]
      refine ⟨w.heap.size, rfl, ?_⟩
      rw [decide_eq_true (by omega)]
      have h9 : (- -((n.toNat : Nat) : Int)).toNat = n.toNat := by omega
      rw [h9]; rfl
  · cases hlen
end
end Go.Proofs.R

/- Calls: what is known of a callee, and what its caller makes of it. -/
namespace Go.Proofs.R
open Go

/-- the results' cells; the names of the rows that the callee made -/
def RetL (p : RP) (sh : Bool) : (rs : List RS) → HV (rsTys rs) → List Value → List Nat → Prop
  | [], _, cs, ns => cs = [] ∧ ns = []
  | .ro t :: rs, x, cs, ns => ∃ c d, cs = c ++ d ∧ Rd p.S p.w t c x.1 ∧ RetL p sh rs x.2 d ns
  | .fresh e t :: rs, x, cs, ns => (∃ n ns' d fz, ns = n :: ns' ∧ p.O n = some (.row e t x.1 fz) ∧ (sh = true → fz = false) ∧ cs = .slice (addrOf (p.β n).1) (List.length x.1) (p.β n).2 :: d ∧ RetL p sh rs x.2 d ns') ∨
      (∃ d, x.1 = ([] : List t.V) ∧ cs = .slice none 0 0 :: d ∧ RetL p sh rs x.2 d ns)

/-- the results' values, out of their cells -/
def ResV : RetD → List Value → List Value → Prop
  | [], cs, vs => cs = [] ∧ vs = []
  | (ag, rs) :: d, cs, vs => ∃ c r v vr, cs = c ++ r ∧ vs = v :: vr ∧ (if ag then v = .agg c.toArray else c = [v]) ∧ c.length = (rs.map fun r => r.ty.size).sum ∧ ResV d r vr

def oneOrTuple : List Value → Value
  | [v] => v
  | vs => .tuple vs.toArray

def noBase : Nat → Place := fun _ => (none, 0)

/-- What a call does: it returns these results, and leaves alone what was there. -/
def CallOk (P : Program) (c : Ctx) (f : FuncId) (args : List AV) (r : HV (rsTys ((c.ret f).flatMap (·.2)))) : Prop :=
  (∀ (w : World) (vs : Array Value), (callFunc f vs).run P w = .ok (.enter f vs) w) ∧
  ∀ (w : World) (Sf : CellSet) (vs : Array Value), (∀ b i, Sf b i → b < w.heap.size) →
    RelAVs (Fr.rp ⟨w, fun _ => False, Sf, noRoot⟩ Sf noBase (fun _ => none) w) args vs.toList →
    Calls P f vs w fun e w' => ∃ S' β' O' cs ws ns, e = .returned (oneOrTuple ws) ∧ Core ⟨w, fun _ => False, Sf, noRoot⟩ S' β' O' w' ∧
      RetL (Fr.rp ⟨w, fun _ => False, Sf, noRoot⟩ S' β' O' w') (((c.ret f).flatMap (·.2)).any RS.shares) ((c.ret f).flatMap (·.2)) r cs ns ∧ ns.Nodup ∧ ResV (c.ret f) cs ws

/-- the value of a leaf that stays: a closure, a place in a variable -/
def KeepV (root : Nat → Value) : Nat → Lf → Value → Prop
  | 0, _, _ => False
  | k + 1, l, v => match l with
    | .ref n off => ∃ j b, n = boxName j ∧ root j = .pointer (some ⟨b, 0, none⟩) ∧ v = .pointer (some ⟨b, off, none⟩)
    | .clo g cs => ∃ cb : List Value, v = .func (.func g) #[] cb.toArray ∧ cb.length = cs.length ∧ ∀ (i : Nat) (l : Lf) (u : Value), cs[i]? = some l → cb[i]? = some u → KeepV root k l u
    | .nilp => v = .pointer none
    | _ => False
/-- a variable's cells behind a call: those that stay, and those that are told -/
def EndC (root : Nat → Value) : List LS → List Value → List Value → Prop
  | [], cs, bc => cs = [] ∧ bc = []
  | .keep l :: ss, cs, bc => ∃ v r, cs = v :: r ∧ KeepV root 64 l v ∧ EndC root ss r bc
  | .val t :: ss, cs, bc => ∃ x r d, cs = x ++ r ∧ bc = x ++ d ∧ x.length = t.size ∧ EndC root ss r d
  | .own _ _ :: ss, cs, bc => ∃ v r d, cs = v :: r ∧ bc = v :: d ∧ EndC root ss r d
/-- all variables behind a call -/
def EndB (root : Nat → Value) (β : Nat → Place) (O : Nat → Option AObj) (w : World) : List BoxS → Nat → List Value → Prop
  | [], _, bc => bc = []
  | s :: ss, k, bc => ∃ b n ls arr x d, root k = .pointer (some ⟨b, 0, none⟩) ∧ O n = some (.box s.T ls) ∧ (β n).1 = some (b, 0) ∧ w.heap[b]? = some (.cells arr s.T (0, 0)) ∧ bc = x ++ d ∧ EndC root s.ls arr.toList x ∧ EndB root β O w ss (k + 1) d
/-- What a call does that is handed variables of its caller's. -/
def CallOkS (P : Program) (c : Ctx) (f : FuncId) (sh : List BoxS) (args : List AV) (r : HV (rsTys ((c.ret f).flatMap (·.2)))) : Prop :=
  (∀ (w : World) (vs : Array Value), (callFunc f vs).run P w = .ok (.enter f vs) w) ∧ sh.length ≤ args.length ∧
  ∀ O0, decBs sh (args.drop (args.length - sh.length)) 0 sh.length = some O0 → ∀ (F : Fr) (S : CellSet) (β : Nat → Place) (w : World) (vs : Array Value), F.w0 = w →
    (∀ k, k < sh.length → ∃ b, (β (boxName k)).1 = some (b, 0) ∧ F.root k = .pointer (some ⟨b, 0, none⟩)) → Core F S β (lkp O0) w →
    RelAVs (F.rp S β (lkp O0) w) (args.take (args.length - sh.length)) vs.toList →
    Calls P f vs w fun e w' => ∃ S' β' O' cs ws ns bc, e = .returned (oneOrTuple ws) ∧ Core F S' β' O' w' ∧ EndB F.root β' O' w' sh 0 bc ∧
      RetL (F.rp S' β' O' w') true ((c.ret f).flatMap (·.2)) r cs ns ∧ ns.Nodup ∧ ResV (c.ret f) cs (ws ++ [.agg bc.toArray])

structure Snd (P : Program) (c : Ctx) (I : Interp c) : Prop where
  call : ∀ f args r, c.shape f = none → I.call f args = some r → CallOk P c f args r
  scall : ∀ f sh args r, c.shape f = some sh → I.call f args = some r → CallOkS P c f sh args r

section
variable {P : Program} {c : Ctx}
variable {F : Fr} {S : CellSet} {β : Nat → Place} {O : Nat → Option AObj} {w : World} {a : Act} {σ : List (Nat × AV)} {o : Oper} {next : Act → World → Prop} {Q : Exit → Act → World → Prop}

theorem Rd_noSl {S S' : CellSet} {w w' : World} : ∀ (t : Ty) {cs : List Value} {x : t.V}, t.hasSl = false → Rd S w t cs x → Rd S' w' t cs x
  | .unit, _, _, _, h => h
  | .int _, _, _, _, h => h
  | .bool, _, _, _, h => h
  | .str, _, _, _, h => h
  | .pair a b, _, _, hs, ⟨c, d, e, h1, h2⟩ => by
    simp only [Ty.hasSl, Bool.or_eq_false_iff] at hs
    exact ⟨c, d, e, Rd_noSl a hs.1 h1, Rd_noSl b hs.2 h2⟩
  | .sl t, _, _, hs, _ => by simp [Ty.hasSl] at hs
  | .arr n t, _, _, hs, ⟨hl, h⟩ => by
    simp only [Ty.hasSl] at hs
    exact ⟨hl, RdsOf_mono (fun _ _ => Rd_noSl t hs) h⟩

theorem unpack_names (d : Nat) : ∀ (rs : List RS) (x : HV (rsTys rs)) (j k : Nat), k < j → lkp (unpackL d rs x j).2 (d * 8 + k) = none
  | [], _, _, _, _ => rfl
  | .ro t :: rs, x, j, k, h => unpack_names d rs x.2 j k h
  | .fresh e t :: rs, x, j, k, h => by
    show lkp ((d * 8 + j, AObj.row e t x.1 false) :: (unpackL d rs x.2 (j + 1)).2) (d * 8 + k) = none
    rw [lkp_cons, if_neg (by omega)]
    exact unpack_names d rs x.2 (j + 1) k (by omega)

theorem lkp_mem {α : Type} : ∀ {l : List (Nat × α)} {n : Nat} {x : α}, lkp l n = some x → (n, x) ∈ l
  | (m, y) :: l, n, x, h => by
    rw [lkp_cons] at h
    split at h
    · rename_i e; subst e; cases h; exact List.mem_cons_self
    · exact List.mem_cons_of_mem _ (lkp_mem h)

theorem unpack_mem (d : Nat) : ∀ (rs : List RS) (x : HV (rsTys rs)) (j n : Nat) (o : AObj), (n, o) ∈ (unpackL d rs x j).2 → ∃ k, n = d * 8 + j + k ∧ k < freshNum rs
  | [], _, _, _, _, h => by cases h
  | .ro t :: rs, x, j, n, o, h => unpack_mem d rs x.2 j n o h
  | .fresh e t :: rs, x, j, n, o, h => by
    rcases List.mem_cons.1 h with h | h
    · cases h; exact ⟨0, rfl, Nat.succ_pos _⟩
    · obtain ⟨k, h1, h2⟩ := unpack_mem d rs x.2 (j + 1) n o h
      exact ⟨k + 1, by omega, Nat.succ_lt_succ h2⟩

/-- each block is an old one, or one of the callee's rows -/
def Blocks (Old : Nat → Prop) (β' : Nat → Place) (O' : Nat → Option AObj) (ns : List Nat) (β : Nat → Place) (O : Nat → Option AObj) : Prop :=
  ∀ n o b off, O n = some o → o.live = true → (β n).1 = some (b, off) → Old b ∨ ∃ k o0 of0, k ∈ ns ∧ O' k = some o0 ∧ o0.live = true ∧ (β' k).1 = some (b, of0)

/-- the objects of a callee, taken over by its caller, one by one -/
theorem import_ret {Fc : Fr} {S' : CellSet} {β' : Nat → Place} {O' : Nat → Option AObj} {w' : World} (hcc : Core Fc S' β' O' w') {Old : Nat → Prop} (sh : Bool) {S2 : CellSet}
    (hS2 : (sh = true ∧ ∀ b i, S2 b i → S' b i) ∨ (sh = false ∧ ∀ b i, S2 b i → Old b)) {d : Nat} {β : Nat → Place} {O : Nat → Option AObj} (hc : Core F S2 β O w') (hbl : Blocks Old β' O' [] β O) :
    ∀ (rs : List RS) (x : HV (rsTys rs)) (cs : List Value) (ns : List Nat) (j : Nat), RetL (Fc.rp S' β' O' w') sh rs x cs ns → ns.Nodup → (∀ n o b off, n ∈ ns → O' n = some o → o.live = true → (β' n).1 = some (b, off) → ¬ Old b ∧ (F.w0.heap.size ≤ b ∨ F.X b)) → (sh = false → rs.any RS.shares = false) →
      (∀ i, (lkp (unpackL d rs x j).2 i).isSome = true → O i = none) → (sh = true → ∀ r ∈ rs, ∀ (cs : List Value) (x : r.elt.V), Rd S' w' r.elt cs x → Rd S2 w' r.elt cs x) →
      ∃ β2, Core F S2 β2 (over (unpackL d rs x j).2 O) w' ∧ (F.rp S2 β O w').le (F.rp S2 β2 (over (unpackL d rs x j).2 O) w') ∧ (∀ n, O n ≠ none → β2 n = β n) ∧
        Blocks Old β' O' ns β2 (over (unpackL d rs x j).2 O) ∧ RelLs (F.rp S2 β2 (over (unpackL d rs x j).2 O) w') (unpackL d rs x j).1 cs
  | [], x, cs, ns, j, hr, _, _, _, _, _ => by
    obtain ⟨rfl, rfl⟩ := hr
    exact ⟨β, hc, le_refl _, fun _ _ => rfl, hbl, rfl⟩
  | .ro t :: rs, x, cs, ns, j, hr, hnd, hold, hsh, hfree, hcv => by
    obtain ⟨c1, d1, rfl, h1, h2⟩ := hr
    obtain ⟨β2, h3, h4, h5, h5b, h6⟩ := import_ret hcc sh hS2 hc hbl rs x.2 d1 ns j h2 hnd hold (fun h => by have := hsh h; simp only [List.any_cons, Bool.or_eq_false_iff] at this; exact this.2) hfree (fun h r hr => hcv h r (List.mem_cons_of_mem _ hr))
    refine ⟨β2, h3, h4, h5, h5b, c1, d1, rfl, ?_, h6⟩
    rcases hS2 with ⟨hs, hS⟩ | ⟨hs, _⟩
    · exact hcv hs _ List.mem_cons_self _ _ h1
    · have := hsh hs
      simp only [List.any_cons, Bool.or_eq_false_iff, RS.shares] at this
      exact Rd_noSl t this.1 h1
  | .fresh e t :: rs, x, cs, ns, j, hr, hnd, hold, hsh, hfree, hcv => by
    have hsh2 : sh = false → rs.any RS.shares = false := fun h => by have := hsh h; simp only [List.any_cons, Bool.or_eq_false_iff] at this; exact this.2
    have hupd : (unpackL d (.fresh e t :: rs) x j).2 = (d * 8 + j, .row e t x.1 false) :: (unpackL d rs x.2 (j + 1)).2 := rfl
    have hls : (unpackL d (.fresh e t :: rs) x j).1 = .row (d * 8 + j) :: (unpackL d rs x.2 (j + 1)).1 := rfl
    have hd : O (d * 8 + j) = none := hfree _ (by rw [hupd, lkp_cons]; simp)
    have hfree2 : ∀ i, (lkp (unpackL d rs x.2 (j + 1)).2 i).isSome = true → O i = none := by
      intro i hi
      refine hfree i ?_
      rw [hupd, lkp_cons]; split
      · rfl
      · exact hi
    have hrest : ∀ (β1 : Nat → Place), over (unpackL d rs x.2 (j + 1)).2 O (d * 8 + j) = none := by
      intro _
      unfold over
      rw [unpack_names d rs x.2 (j + 1) j (by omega)]
      exact hd
    have hO2 : ∀ n, O n ≠ none → n ≠ d * 8 + j := by rintro n hn rfl; exact hn hd
    rw [hupd, hls, over_cons]
    rcases hr with ⟨n, ns', d1, fz, rfl, hO', hfz, rfl, h2⟩ | ⟨d1, hx0, rfl, h2⟩
    · -- a row
      obtain ⟨hnn, hnd'⟩ := List.nodup_cons.1 hnd
      obtain ⟨β2, h3, h4, h5, h5b, h6⟩ := import_ret hcc sh hS2 hc hbl rs x.2 d1 ns' (j + 1) h2 hnd' (fun n o b off hn => hold n o b off (List.mem_cons_of_mem _ hn)) hsh2 hfree2 (fun h r hr => hcv h r (List.mem_cons_of_mem _ hr))
      have hdn := hrest β2
      have hobj := hcc.obj n _ hO'
      have hrow : ∀ q : RP, q.w = w' → (∀ b i, S2 b i → q.S b i) → q.β (d * 8 + j) = β' n → ObjR q (d * 8 + j) (.row e t x.1 false) := by
        intro q hqw hqS hqb
        rcases hobj with ⟨h1, h3⟩ | ⟨b, o0, arr, cs0, rest, h1, h3, h4, h5, h6, h7, h8, h9⟩
        · exact .inl ⟨by rw [hqb]; exact h1, h3⟩
        · refine .inr ⟨b, o0, arr, cs0, rest, by rw [hqb]; exact h1, by rw [hqw]; exact h3, by rw [hqb]; exact h4, h5, ?_, by rw [hqb]; exact h7, h8, h9⟩
          rcases hS2 with ⟨hs, hS⟩ | ⟨hs, _⟩
          · exact RdsOf_mono (fun cs x h => Rd_mono (fun b i h => hqS b i h) (fun b i v _ h => by rw [hqw]; exact h) t (hcv hs _ List.mem_cons_self cs x h)) h6
          · have := hsh hs
            simp only [List.any_cons, Bool.or_eq_false_iff, RS.shares] at this
            exact RdsOf_mono (fun _ _ => Rd_noSl t this.1) h6
      have hblk : ∀ b off, (β' n).1 = some (b, off) → ¬ Old b ∧ (F.w0.heap.size ≤ b ∨ F.X b) := fun b off hb => hold n _ b off List.mem_cons_self hO' rfl hb
      have hnoS : ∀ b off i, (β' n).1 = some (b, off) → ¬ S2 b i := by
        intro b off i hb hs
        rcases hS2 with ⟨hs2, hS⟩ | ⟨hs2, hS⟩
        · obtain ⟨e1, t1, xs1, h1, _⟩ := hcc.still b i n _ off (hS b i hs) hO' rfl hb
          have := hfz hs2
          subst this; cases h1
        · exact (hblk b off hb).1 (hS b i hs)
      obtain ⟨h7, h8⟩ : Core F S2 (upd β2 (d * 8 + j) (β' n)) (upd (over (unpackL d rs x.2 (j + 1)).2 O) (d * 8 + j) (some (.row e t x.1 false))) w' ∧
          (F.rp S2 β2 (over (unpackL d rs x.2 (j + 1)).2 O) w').le (F.rp S2 (upd β2 (d * 8 + j) (β' n)) (upd (over (unpackL d rs x.2 (j + 1)).2 O) (d * 8 + j) (some (.row e t x.1 false))) w') := by
        refine h3.change (fun k => k = d * 8 + j) rfl rfl rfl (Nat.le_refl _) (Nat.le_refl _) (fun _ _ _ => rfl) (fun _ _ h => h) (fun _ _ _ _ h => h) ?_ ?_ ?_ ?_ ?_ (fun _ _ h => .inl h) h3.dom ?_ ?_
        · intro k hk; exact ⟨upd_ne _ _ _ _ hk, upd_ne _ _ _ _ hk⟩
        · rintro k ok hk rfl; rw [hdn] at hk; cases hk
        · rintro le k ok hk rfl
          rw [upd_same] at hk; cases hk
          exact hrow _ rfl (fun _ _ h => h) (by simp [Fr.rp, upd_same])
        · rintro k ok b off rfl _ _ hb
          rw [upd_same] at hb
          exact (hblk b off hb).2
        · rintro k k' ok ok' b x1 y1 rfl hk hk' hlk hlk' hb hb'
          by_cases e1 : k' = d * 8 + j
          · exact e1.symm
          · exfalso
            rw [upd_same] at hb
            rw [upd_ne _ _ _ _ e1] at hk' hb'
            rcases h5b k' ok' b y1 hk' hlk' hb' with h | ⟨k2, o2, of2, h6, h7, h8, h9⟩
            · exact (hblk b x1 hb).1 h
            · have := hcc.apart n k2 _ o2 b x1 of2 hO' h7 rfl h8 hb h9
              exact hnn (this ▸ h6)
        · rintro b i k ok off hs hk hlk hb
          by_cases e1 : k = d * 8 + j
          · subst e1
            rw [upd_same] at hb
            exact (hnoS b off i hb hs).elim
          · rw [upd_ne _ _ _ _ e1] at hk hb
            exact h3.still b i k ok off hs hk hlk hb
        · rintro k e1 t1 xs1 b off i rfl hk
          rw [upd_same] at hk; cases hk
      refine ⟨_, h7, le_trans_same h4 h8 ?_, ?_, ?_, [_], d1, rfl, ?_, RelLs_le h8 _ h6⟩
      · intro m o1 o2 ho1 _ _
        simp only [Fr.rp] at ho1 ⊢
        have hm : O m ≠ none := by rw [ho1]; simp
        rw [upd_ne _ _ _ _ (hO2 m hm)]; exact h5 m hm
      · intro m hm
        rw [upd_ne _ _ _ _ (hO2 m hm)]; exact h5 m hm
      · intro m om b off hm hlm hb
        by_cases e1 : m = d * 8 + j
        · subst e1
          rw [upd_same] at hb
          exact .inr ⟨n, _, off, List.mem_cons_self, hO', rfl, hb⟩
        · rw [upd_ne _ _ _ _ e1] at hm hb
          rcases h5b m om b off hm hlm hb with h | ⟨k2, o2, of2, h9, h10, h11, h12⟩
          · exact .inl h
          · exact .inr ⟨k2, o2, of2, List.mem_cons_of_mem _ h9, h10, h11, h12⟩
      · unfold RelL; simp only [Fr.rp, upd_same]
    · -- nil
      obtain ⟨β2, h3, h4, h5, h5b, h6⟩ := import_ret hcc sh hS2 hc hbl rs x.2 d1 ns (j + 1) h2 hnd hold hsh2 hfree2 (fun h r hr => hcv h r (List.mem_cons_of_mem _ hr))
      obtain ⟨h7, h8⟩ := h3.newNil (e := e) (t := t) (hrest β2)
      rw [over_cons, over_nil] at h7 h8
      rw [hx0]
      refine ⟨_, h7, le_trans_same h4 h8 ?_, ?_, ?_, [_], d1, rfl, ?_, RelLs_le h8 _ h6⟩
      · intro m o1 o2 ho1 _ _
        simp only [Fr.rp] at ho1 ⊢
        have hm : O m ≠ none := by rw [ho1]; simp
        rw [upd_ne _ _ _ _ (hO2 m hm)]; exact h5 m hm
      · intro m hm
        rw [upd_ne _ _ _ _ (hO2 m hm)]; exact h5 m hm
      · intro m om b off hm hlm hb
        by_cases e1 : m = d * 8 + j
        · subst e1; rw [upd_same] at hb; cases hb
        · rw [upd_ne _ _ _ _ e1] at hm hb
          exact h5b m om b off hm hlm hb
      · unfold RelL; simp only [Fr.rp, upd_same]; simp [addrOf]

theorem unpack_sizes (d : Nat) : ∀ (rs : List RS) (x : HV (rsTys rs)) (j : Nat), (unpackL d rs x j).1.map Lf.size = rs.map fun r => r.ty.size
  | [], _, _ => rfl
  | .ro t :: rs, x, j => by show t.size :: _ = t.size :: _; rw [unpack_sizes d rs x.2 j]
  | .fresh e t :: rs, x, j => by show 1 :: _ = 1 :: _; rw [unpack_sizes d rs x.2 (j + 1)]

theorem group_rel {p : RP} : ∀ (d : RetD) (ls : List Lf) (cs ws : List Value), ls.map Lf.size = (d.flatMap (·.2)).map (fun r => r.ty.size) → RelLs p ls cs → ResV d cs ws → (group d ls).all (fun p => p.1 || Nat.beq p.2.length 1) = true → RelVls p (group d ls) ws
  | [], ls, cs, ws, _, _, h, _ => h.2
  | (ag, rs) :: d, ls, cs, ws, hsz, hr, ⟨c1, r1, v, vr, e1, e2, hv, hl, h⟩, hall => by
    subst e2
    simp only [List.flatMap_cons, List.map_append] at hsz
    have hlen : ls.length = rs.length + (d.flatMap (·.2)).length := by
      have := congrArg List.length hsz
      simpa using this
    have e3 : ls = ls.take rs.length ++ ls.drop rs.length := (List.take_append_drop _ _).symm
    have hs1 : (ls.take rs.length).map Lf.size = rs.map fun r => r.ty.size := by
      rw [List.map_take, hsz]
      exact List.take_left' (by simp)
    have hs2 : (ls.drop rs.length).map Lf.size = (d.flatMap (·.2)).map fun r => r.ty.size := by
      rw [List.map_drop, hsz]
      exact List.drop_left' (by simp)
    rw [e3] at hr
    obtain ⟨c2, d2, e4, h2, h3⟩ := RelLs_split _ _ hr
    have hc2 : c2.length = c1.length := by
      rw [RelLs_len _ h2, hl]; unfold sizes; rw [hs1]
    obtain ⟨rfl, rfl⟩ := List.append_inj (e4.symm.trans e1) hc2
    simp only [group, List.all_cons, Bool.and_eq_true] at hall
    refine ⟨v, vr, rfl, ?_, group_rel d _ _ vr hs2 h3 h hall.2⟩
    cases ag with
    | true =>
      simp only [if_true] at hv
      exact ⟨_, hv, by simpa using h2⟩
    | false =>
      simp only [Bool.false_eq_true, if_false] at hv
      have h4 := hall.1
      simp only [Bool.false_or] at h4
      have h5 := Nat.eq_of_beq_eq_true h4
      match hm : ls.take rs.length, h5 with
      | [l], _ =>
        rw [hm] at h2
        obtain ⟨c3, c4, e5, h6, h7⟩ := h2
        simp only [RelLs] at h7; subst h7
        simp only [List.append_nil] at e5; subst e5
        rw [hv] at h6
        exact ⟨l, rfl, .inr h6⟩

theorem groupAV_rel {p : RP} {d : RetD} {ls : List Lf} {cs ws : List Value} (hsz : ls.map Lf.size = (d.flatMap (·.2)).map (fun r => r.ty.size)) (hr : RelLs p ls cs) (hv : ResV d cs ws) {av : AV} (h : groupAV d ls = some av) : RelAV p av (oneOrTuple ws) := by
  unfold groupAV at h
  split at h
  · rename_i q hq
    have hall : (group d ls).all (fun p => p.1 || Nat.beq p.2.length 1) = true := by
      rw [hq]; unfold avOf at h
      split at h
      · rfl
      · rfl
      · cases h
    have := group_rel d ls cs ws hsz hr hv hall
    rw [hq] at this
    obtain ⟨v, r, rfl, h1, h2⟩ := this
    simp only [RelVls] at h2; subst h2
    show RelAV p av v
    unfold avOf at h
    split at h
    · cases h; exact h1
    · cases h
      obtain ⟨l, e, h3⟩ := h1
      simp only [List.cons.injEq, and_true] at e; subst e; exact h3
    · cases h
  · rename_i ps hps
    cases hall : (group d ls).all (fun p => p.1 || Nat.beq p.2.length 1) with
    | false => rw [hall] at h; cases h
    | true =>
      rw [hall] at h; simp only [cond_true, Option.some.injEq] at h; subst h
      have := group_rel d ls cs ws hsz hr hv hall
      have hne : ∀ v, ws ≠ [v] := by
        rintro v rfl
        match hg : group d ls with
        | [] => rw [hg] at this; simp [RelVls] at this
        | [q] => exact hps q hg
        | q :: q2 :: r =>
          rw [hg] at this
          obtain ⟨v1, r1, e1, _, v2, r2, e2, _⟩ := this
          subst e2; simp at e1
      have : oneOrTuple ws = .tuple ws.toArray := by
        unfold oneOrTuple
        split
        · rename_i v; exact (hne v rfl).elim
        · rfl
      rw [this]
      exact ⟨_, rfl, by simpa using ‹RelVls p (group d ls) ws›⟩

theorem RelAVs_append {p : RP} : ∀ {as bs : List AV} {us vs : List Value}, RelAVs p as us → RelAVs p bs vs → RelAVs p (as ++ bs) (us ++ vs)
  | [], bs, us, vs, h, h' => by simp only [RelAVs] at h; subst h; simpa using h'
  | x :: as, bs, _, vs, ⟨v, r, e, h1, h2⟩, h' => by
    subst e
    exact ⟨v, r ++ vs, rfl, h1, RelAVs_append h2 h'⟩

theorem caps_rel {p : RP} : ∀ {ls : List Lf} {vs : List Value}, RelLs p ls vs → ls.all (fun l => Nat.beq l.size 1) = true → RelAVs p (ls.map AV.one) vs
  | [], vs, h, _ => h
  | l :: ls, _, ⟨c1, d1, e, h1, h2⟩, hs => by
    subst e
    simp only [List.all_cons, Bool.and_eq_true] at hs
    have h3 := RelL_len l h1
    rw [Nat.eq_of_beq_eq_true hs.1] at h3
    match c1, h3 with
    | [v], _ => exact ⟨v, d1, rfl, .inr h1, caps_rel h2 hs.2⟩

theorem resolveAVs_rel {p q : RP} {lk : Nat → Option AObj} (h : Opens p q lk) : ∀ {as bs : List AV} {vs : List Value}, resolveAVs lk as = some bs → RelAVs p as vs → RelAVs q bs vs
  | [], bs, vs, e, hr => by simp only [resolveAVs, Option.some.injEq] at e; subst e; exact hr
  | x :: as, bs, _, e, ⟨v, r, e1, h1, h2⟩ => by
    subst e1
    simp only [resolveAVs, Option.bind_eq_some_iff, Option.some.injEq] at e
    obtain ⟨b, h3, bs', h4, rfl⟩ := e
    exact ⟨v, r, rfl, resolveAV_rel h h3 h1, resolveAVs_rel h h4 h2⟩

/-- a call, as its caller sees it -/
theorem freezes_not {lk : Nat → Option AObj} : ∀ {ns : List Nat} {n : Nat}, n ∉ ns → lkp (freezes lk ns) n = none
  | [], _, _ => rfl
  | m :: ns, n, h => by
    simp only [List.mem_cons, not_or] at h
    unfold freezes
    split
    · rw [lkp_cons, if_neg h.1]; exact freezes_not h.2
    · exact freezes_not h.2
theorem memB_in {l : List Nat} {n : Nat} (h : n ∈ l) : memB l n = true := by
  induction l with
  | nil => cases h
  | cons m l ih =>
    rcases List.mem_cons.1 h with rfl | h
    · simp [memB]
    · simp [memB, ih h]
theorem disjB_no : ∀ {l m : List Nat}, disjB l m = true → ∀ n ∈ l, n ∉ m
  | [], _, _, _, h => by cases h
  | k :: l, m, h, n, hn => by
    simp only [disjB, Bool.and_eq_true, Bool.not_eq_true'] at h
    rcases List.mem_cons.1 hn with rfl | hn
    · intro hm; rw [memB_in hm] at h; exact absurd h.1 (by simp)
    · exact disjB_no h.2 n hn

/-! ### what cells hold -/
def tagV : Value → Nat
  | .int _ _ => 1
  | .bool _ => 2
  | .string _ => 3
  | .slice _ _ _ => 4
  | _ => 0

theorem rds_all {α : Type} {R : List Value → α → Prop} {p : Value → Prop} (h : ∀ c x, R c x → ∀ v ∈ c, p v) : ∀ {cs : List Value} {xs : List α}, RdsOf R cs xs → ∀ v ∈ cs, p v
  | _, [], hh => by simp [RdsOf] at hh; simp [hh]
  | _, x :: xs, ⟨c, d, e, h1, h2⟩ => by
    subst e
    intro v hv
    rcases List.mem_append.1 hv with hv | hv
    · exact h _ _ h1 v hv
    · exact rds_all h h2 v hv

theorem Rd_tagsC {S : CellSet} {w : World} : ∀ (t : Ty) {cs : List Value} {x : t.V}, Rd S w t cs x → ∀ v ∈ cs, tagV v ∈ tagsC t
  | .unit, _, _, h => by simp [Rd] at h; simp [h]
  | .int _, _, _, h => by simp [Rd] at h; simp [h, tagV, tagsC]
  | .bool, _, _, h => by simp [Rd] at h; simp [h, tagV, tagsC]
  | .str, _, _, h => by simp [Rd] at h; simp [h, tagV, tagsC]
  | .pair a b, _, _, ⟨c, d, e, h1, h2⟩ => by
    subst e
    intro v hv
    rcases List.mem_append.1 hv with hv | hv
    · exact List.mem_append_left _ (Rd_tagsC a h1 v hv)
    · exact List.mem_append_right _ (Rd_tagsC b h2 v hv)
  | .sl t, _, _, ⟨A, c, e, _, _⟩ => by subst e; simp [tagV, tagsC]
  | .arr n t, _, _, ⟨hl, h⟩ => rds_all (fun _ _ h => Rd_tagsC t h) h

theorem Rd_tags {S : CellSet} {w : World} {R : List Nat} : ∀ (t : Ty), (∀ k ∈ tagsI t, k ∈ R) → ∀ {cs : List Value} {x : t.V}, Rd S w t cs x → Rd (fun b i => S b i ∧ ∃ v, cellAt w b i = some v ∧ tagV v ∈ R) w t cs x
  | .unit, _, _, _, h => h
  | .int _, _, _, _, h => h
  | .bool, _, _, _, h => h
  | .str, _, _, _, h => h
  | .pair a b, hR, _, _, ⟨c, d, e, h1, h2⟩ => ⟨c, d, e, Rd_tags a (fun k hk => hR k (List.mem_append_left _ hk)) h1, Rd_tags b (fun k hk => hR k (List.mem_append_right _ hk)) h2⟩
  | .arr n t, hR, _, _, ⟨hl, h⟩ => ⟨hl, RdsOf_mono (fun _ _ => Rd_tags t hR) h⟩
  | .sl t, hR, _, _, ⟨A, c, e, hl, h⟩ => ⟨A, c, e, hl, h.imp id fun ⟨b, o, ds, hA, h1, h2⟩ => by
    have hc : ∀ v ∈ ds, tagV v ∈ R := fun v hv => hR _ (List.mem_append_left _ (rds_all (fun _ _ h => Rd_tagsC t h) h1 v hv))
    refine ⟨b, o, ds, hA, RdsOf_mono (fun _ _ => Rd_tags t (fun k hk => hR k (List.mem_append_right _ hk))) h1, ?_⟩
    clear hA h1 hl h hR e
    induction ds generalizing o with
    | nil => trivial
    | cons v ds ih =>
      obtain ⟨h3, h4, h5⟩ := h2
      exact ⟨h3, ⟨h4, v, h3, hc v List.mem_cons_self⟩, ih _ h5 fun u hu => hc u (List.mem_cons_of_mem _ hu)⟩⟩

theorem shNames_mem {lk : Nat → Option AObj} {R : List Nat} : ∀ {ns : List Nat} {n : Nat}, n ∈ ns → n ∈ shNames lk R ns ∨ ∃ e t xs, lk n = some (.row e t xs false) ∧ disjB (tagsC t) R = true
  | m :: ns, n, h => by
    unfold shNames
    rcases List.mem_cons.1 h with rfl | h
    · split
      · rename_i e t xs hl
        cases hb : disjB (tagsC t) R with
        | true => exact .inr ⟨e, t, xs, hl, hb⟩
        | false => exact .inl List.mem_cons_self
      · exact .inl List.mem_cons_self
    · rcases shNames_mem h with h1 | h1
      · left
        split
        · cases disjB (tagsC _) R with
          | true => exact h1
          | false => exact List.mem_cons_of_mem _ h1
        · exact List.mem_cons_of_mem _ h1
      · exact .inr h1

theorem callOp_ok {I : Interp c} (hI : Snd P c I) {g : FuncId} (hsp : c.shape g = none) (hc : Core F S β O w) {lk : Nat → Option AObj} {ns : List Nat} (hlk : ∀ n o, lk n = some o → O n = some o) (hns : ∀ n o, lk n = some o → n ∈ ns)
    {d : Nat} {args : List AV} {av : AV} {u : Upd} (h : callOp c I lk d g args ns two = some (av, u)) {vs : Array Value} (hr : RelAVs (F.rp S β O w) args vs.toList)
    (hfree : ∀ n o', (n, o') ∈ u → n / 8 = d → n % 8 < 5 → O n = none) :
    (callFunc g vs).run P w = .ok (.enter g vs) w ∧ Calls P g vs w fun e w' => ∃ v S' β', e = .returned v ∧ Core F S' β' (over u O) w' ∧ (F.rp S β O w).le (F.rp S' β' (over u O) w') ∧ RelAV (F.rp S' β' (over u O) w') av v := by
  unfold callOp at h
  cases hfn : Nat.blt (freshNum ((c.ret g).flatMap (·.2))) 6 with
  | false => rw [hfn] at h; cases h
  | true =>
  rw [hfn] at h
  simp only [cond_true, Option.bind_eq_some_iff, bindD, two, Option.some.injEq, Prod.mk.injEq] at h
  obtain ⟨as, has, r, hr1, v, hv, rfl, hu⟩ := h
  have hfr : ∀ i, (lkp (unpackL d ((c.ret g).flatMap (·.2)) r 0).2 i).isSome = true → O i = none := by
    intro i hi
    cases hl : lkp (unpackL d ((c.ret g).flatMap (·.2)) r 0).2 i with
    | none => rw [hl] at hi; cases hi
    | some o' =>
      have hm := lkp_mem hl
      obtain ⟨j, h1, h2⟩ := unpack_mem d _ _ _ _ _ hm
      have : freshNum _ + 1 ≤ 6 := Nat.le_of_ble_eq_true hfn
      refine hfree i o' ?_ (by omega) (by omega)
      rw [← hu]; exact List.mem_append_left _ hm
  obtain ⟨henter, hcall⟩ := hI.call g as r hsp hr1
  refine ⟨henter w vs, ?_⟩
  have hrowblk : ∀ n o b off, O n = some o → o.live = true → (β n).1 = some (b, off) → b < w.heap.size := fun n o b off h1 h2 h3 => ObjR_block (hc.obj n o h1) h2 h3
  have hbox : ∀ (q : RP), q.w = w → (∀ b i, b < w.heap.size → q.N b i) → ∀ n T ls, lk n = some (.box T ls) → O n = some (.box T ls) ∧ ∃ b ds, (β n).1 = some (b, 0) ∧ RelLs (F.rp S β O w) ls ds ∧ At (fun b i => q.N b i ∨ q.S b i) q.w b 0 ds := by
    intro q hqw hqN n T ls hl
    have hO := hlk n _ hl
    obtain ⟨b, arr, h1, h2, h3⟩ := hc.obj n _ hO
    refine ⟨hO, b, arr.toList, h1, h3, ?_⟩
    rw [hqw]
    simp only [Fr.rp] at h2
    exact At_of_block h2 (o := 0) (rest := []) (by simp) (fun j _ => .inl (hqN _ _ (Array.getElem?_eq_some_iff.1 h2).1))
  cases hsh : ((c.ret g).flatMap (·.2)).any RS.shares with
  | true =>
    rw [hsh] at hu; simp only [cond_true] at hu
    generalize hR : (((c.ret g).flatMap (·.2)).flatMap fun r => tagsI r.elt) = R at hu
    generalize hms : shNames lk R ns = ms at hu
    obtain ⟨S1, hc1, le1, hrow1, _⟩ := hc.freezes hlk ms
    let U : CellSet := fun b i => ∃ n e t xs, lk n = some (.row e t xs false) ∧ n ∉ ms ∧ disjB (tagsC t) R = true ∧ rowCells β n (xs.length * t.size) b i
    have hO1 : ∀ n, n ∉ ms → over (freezes lk ms) O n = O n := by
      intro n hn
      unfold over
      rw [freezes_not hn]
    have hUS : ∀ b i, U b i → ¬ S1 b i := by
      rintro b i ⟨n, e, t, xs, hl, hn, _, off, hb, _, _⟩ hs
      obtain ⟨_, _, _, h1, _⟩ := hc1.still b i n _ off hs (by rw [hO1 n hn]; exact hlk _ _ hl) rfl hb
      cases h1
    have hUd : ∀ b i, U b i → b < w.heap.size := by
      rintro b i ⟨n, e, t, xs, hl, hn, _, off, hb, _, _⟩
      exact hrowblk n _ b off (hlk _ _ hl) rfl hb
    have hUc : ∀ b i v, U b i → cellAt w b i = some v → tagV v ∉ R := by
      rintro b i v ⟨n, e, t, xs, hl, hn, hdj, off, hb, h1, h2⟩ hv
      rcases hc.obj n _ (hlk _ _ hl) with ⟨h3, h4⟩ | ⟨b', o0, arr, cs0, rest, h3, h4, h5, h6, h7, _⟩
      · simp only [Fr.rp] at h3
        rw [h3] at hb; cases hb
      · simp only [Fr.rp] at h3 h4 h7
        rw [h3] at hb; simp only [Option.some.injEq, Prod.mk.injEq] at hb
        obtain ⟨rfl, rfl⟩ := hb
        have hlen : cs0.length = xs.length * t.size := RdsOf_len (fun _ _ => Rd_len t) h7
        have hlt : i - o0 < cs0.length := by omega
        have h8 : arr.toList[i]? = some (cs0[i - o0]'hlt) := by
          have : (arr.toList.drop o0)[i - o0]? = some (cs0[i - o0]'hlt) := by rw [h6, List.getElem?_append_left hlt, List.getElem?_eq_getElem hlt]
          rw [List.getElem?_drop] at this
          rw [← this]; congr 1; omega
        have h9 := arr_cells h4 i _ h8
        rw [Nat.zero_add, hv] at h9
        have h10 : v = cs0[i - o0]'hlt := Option.some.inj h9
        have := rds_all (fun _ _ h => Rd_tagsC t h) h7 v (by rw [h10]; exact List.getElem_mem hlt)
        exact disjB_no hdj _ this
    have hop : Opens (F.rp S β O w) (Fr.rp ⟨w, fun _ => False, fun b i => S1 b i ∨ U b i, noRoot⟩ (fun b i => S1 b i ∨ U b i) noBase (fun _ => none) w) lk := by
      refine ⟨fun b i h => .inl (le1.S b i h), fun _ _ _ _ h => h, ?_, ?_, hbox _ rfl (fun b i hb => ⟨hb, id⟩)⟩
      · intro b i hn; exact .inl ⟨Nat.lt_of_lt_of_le hn.1 hc.size, id⟩
      · intro n e t xs fz hl
        have hO := hlk n _ hl
        by_cases hn : n ∈ ms
        · obtain ⟨fz', h5, _, h6⟩ := hrow1 n _ _ _ _ hO
          have := h6 hn (by rw [hl]; simp); subst this
          obtain ⟨h7, h8⟩ := hc1.froz_reads h5
          refine ⟨hO, h7, h8.imp id ?_⟩
          rintro ⟨b, o0, cs, h9, h10, h11⟩
          exact ⟨b, o0, cs, h9, RdsOf_mono (fun _ _ => Rd_mono (fun _ _ h => .inl h) (fun _ _ _ _ h => h) t) h10, At_mono (fun _ _ h => .inl h) (fun _ _ _ _ h => h) h11⟩
        · rcases shNames_mem (R := R) (hns n _ hl) with h1 | ⟨e1, t1, xs1, h1, h2⟩
          · rw [hms] at h1; exact (hn h1).elim
          · rw [hl] at h1; cases h1
            refine ⟨hO, ?_⟩
            rcases hc.obj n _ hO with ⟨h3, rfl⟩ | ⟨b, o0, arr, cs, rest, h3, h4, h5, h6, h7, _⟩
            · exact ⟨Nat.zero_le _, .inl rfl⟩
            · refine ⟨h5, .inr ⟨b, o0, cs, h3, ?_, ?_⟩⟩
              · exact RdsOf_mono (fun _ _ => Rd_mono (fun b i hs => .inl (le1.S b i hs)) (fun _ _ _ _ h => h) t) h7
              · simp only [Fr.rp] at h4 h3
                have hlen : cs.length = xs.length * t.size := RdsOf_len (fun _ _ => Rd_len t) h7
                exact At_of_block h4 h6 (fun j hj => .inr ⟨n, e, t, xs, hl, hn, h2, o0, h3, by omega, by omega⟩)
    refine (hcall w (fun b i => S1 b i ∨ U b i) vs (fun b i h => h.elim (hc1.dom b i) (hUd b i)) (resolveAVs_rel hop has hr)).mono ?_
    rintro e w' ⟨S', β', O', cs, ws, ns', rfl, hcc, hret, hnd, hres⟩
    have hkeep : ∀ k, k < w.heap.size → w'.heap[k]? = w.heap[k]? := fun k hk => hcc.keep k hk id
    have hstep : Core F (fun b i => S' b i ∧ ¬ U b i) β (over (freezes lk ms) O) w' ∧ (F.rp S1 β (over (freezes lk ms) O) w).le (F.rp (fun b i => S' b i ∧ ¬ U b i) β (over (freezes lk ms) O) w') := by
      refine hc1.change (fun _ => False) hcc.os hcc.tape hcc.output hcc.drawn hcc.size (fun k hk _ => hkeep k hk) (fun b i hs => ⟨hcc.sf b i (.inl hs), fun hU => hUS b i hU hs⟩) ?_ (fun _ _ => ⟨rfl, rfl⟩) (fun _ _ _ h => h.elim) (fun _ _ _ _ h => h.elim) (fun _ _ _ _ h => h.elim) (fun _ _ _ _ _ _ _ h => h.elim) ?_ (fun b i h => hcc.dom b i h.1) ?_ (fun _ _ _ _ _ _ _ h => h.elim)
      · intro b i v hs hv; rw [← hv]; exact cellAt_block (hkeep b (hc1.dom b i hs))
      · rintro b i ⟨hs, hu⟩
        rcases hcc.fresh b i hs with (h | h) | h | h
        · exact .inl h
        · exact (hu h).elim
        · exact .inr (.inr (.inl (Nat.le_trans hc.size h)))
        · exact h.elim
      · rintro b i n o1 off ⟨hs, hu⟩ hO hl hb
        have hlt : b < w.heap.size := ObjR_block (hc1.obj n o1 hO) hl hb
        rcases hcc.fresh b i hs with (h | h) | h | h
        · exact hc1.still b i n o1 off h hO hl hb
        · exact (hu h).elim
        · exact absurd hlt (by have : w.heap.size ≤ b := h; omega)
        · exact h.elim
    obtain ⟨hc2, le2⟩ := hstep
    obtain ⟨β2, h3, h4, h5, _, h6⟩ := import_ret (F := F) (Fc := ⟨w, fun _ => False, fun b i => S1 b i ∨ U b i, noRoot⟩) hcc (Old := fun b => b < w.heap.size) true (S2 := fun b i => S' b i ∧ ¬ U b i) (.inl ⟨rfl, fun _ _ h => h.1⟩) (d := d) hc2
      (fun n o b off h1 h2 h3 => .inl (ObjR_block (hc1.obj n o h1) h2 h3)) ((c.ret g).flatMap (·.2)) r cs ns' 0 (by rw [← hsh]; exact hret) hnd (fun n o b off _ hO hl hb => by
        rcases hcc.far n o b off hO hl hb with h | h
        · have h : w.heap.size ≤ b := h
          exact ⟨by omega, .inl (Nat.le_trans hc.size h)⟩
        · exact h.elim) (fun h => by cases h) (by
        intro i hi
        have := hfr i hi
        unfold over
        have hnone : lkp (freezes lk ms) i = none := by
          cases hl : lkp (freezes lk ms) i with
          | none => rfl
          | some o =>
            exfalso
            have : ∀ ns, (lkp (freezes lk ns) i).isSome = true → O i ≠ none := by
              intro ns
              induction ns with
              | nil => intro h; cases h
              | cons m ns ih =>
                unfold freezes
                split
                · rename_i e0 t0 xs0 hm
                  rw [lkp_cons]
                  split
                  · rename_i e1; subst e1; intro _; rw [hlk _ _ hm]; simp
                  · exact ih
                · exact ih
            exact this ms (by rw [hl]; rfl) ‹O i = none›
        rw [hnone]; exact this) (by
        intro _ r0 hr0 cs0 x0 hx0
        refine Rd_mono ?_ (fun _ _ _ _ h => h) _ (Rd_tags (R := R) r0.elt (fun k hk => by rw [← hR]; exact List.mem_flatMap.2 ⟨r0, hr0, hk⟩) hx0)
        rintro b i ⟨h1, v, h2, h3⟩
        refine ⟨h1, fun hU => ?_⟩
        rw [cellAt_block (hkeep b (hUd b i hU))] at h2
        exact hUc b i v hU h2 h3)
    rw [← hu, over_append]
    refine ⟨_, _, β2, rfl, h3, ?_, groupAV_rel (unpack_sizes _ _ _ _) h6 hres hv⟩
    refine le_trans_same (le_trans_same le1 le2 (fun _ _ _ _ _ _ => rfl)) h4 ?_
    intro n o1 o2 ho1 _ _
    simp only [Fr.rp] at ho1 ⊢
    refine h5 n ?_
    intro hno
    obtain ⟨o3, ho3, _⟩ := le1.obj n o1 ho1
    simp only [Fr.rp] at ho3
    rw [hno] at ho3; cases ho3
  | false =>
    rw [hsh] at hu; simp only [cond_false, List.append_nil] at hu
    have hop : Opens (F.rp S β O w) (Fr.rp ⟨w, fun _ => False, fun b _ => b < w.heap.size, noRoot⟩ (fun b _ => b < w.heap.size) noBase (fun _ => none) w) lk := by
      refine ⟨hc.dom, fun _ _ _ _ h => h, ?_, ?_, hbox _ rfl (fun b i hb => ⟨hb, id⟩)⟩
      · intro b i hn; exact .inl ⟨Nat.lt_of_lt_of_le hn.1 hc.size, id⟩
      · intro n e t xs fz hl
        have hO := hlk n _ hl
        refine ⟨hO, ?_⟩
        rcases hc.obj n _ hO with ⟨h1, rfl⟩ | ⟨b, o0, arr, cs, rest, h1, h2, h3, h4, h5, _⟩
        · exact ⟨Nat.zero_le _, .inl rfl⟩
        · refine ⟨h3, .inr ⟨b, o0, cs, h1, ?_, ?_⟩⟩
          · exact RdsOf_mono (fun _ _ => Rd_mono (fun b i hs => hc.dom b i hs) (fun _ _ _ _ h => h) t) h5
          · simp only [Fr.rp] at h2
            exact At_of_block h2 h4 (fun j _ => (Array.getElem?_eq_some_iff.1 h2).1)
    refine (hcall w (fun b _ => b < w.heap.size) vs (fun b i h => h) (resolveAVs_rel hop has hr)).mono ?_
    rintro e w' ⟨S', β', O', cs, ws, ns', rfl, hcc, hret, hnd, hres⟩
    have hkeep : ∀ k, k < w.heap.size → w'.heap[k]? = w.heap[k]? := fun k hk => hcc.keep k hk id
    have hstep : Core F S β O w' ∧ (F.rp S β O w).le (F.rp S β O w') := by
      refine hc.change (fun _ => False) hcc.os hcc.tape hcc.output hcc.drawn hcc.size (fun k hk _ => hkeep k hk) (fun _ _ h => h) ?_ (fun _ _ => ⟨rfl, rfl⟩) (fun _ _ _ h => h.elim) (fun _ _ _ _ h => h.elim) (fun _ _ _ _ h => h.elim) (fun _ _ _ _ _ _ _ h => h.elim) (fun _ _ h => .inl h) ?_ hc.still (fun _ _ _ _ _ _ _ h => h.elim)
      · intro b i v hs hv; rw [← hv]; exact cellAt_block (hkeep b (hc.dom b i hs))
      · intro b i hs; exact Nat.lt_of_lt_of_le (hc.dom b i hs) hcc.size
    obtain ⟨hc2, le2⟩ := hstep
    obtain ⟨β2, h3, h4, h5, _, h6⟩ := import_ret (F := F) (Fc := ⟨w, fun _ => False, fun b _ => b < w.heap.size, noRoot⟩) hcc (Old := fun b => b < w.heap.size) false (S2 := S) (.inr ⟨rfl, hc.dom⟩) (d := d) hc2
      (fun n o b off h1 h2 h3 => .inl (hrowblk n o b off h1 h2 h3)) ((c.ret g).flatMap (·.2)) r cs ns' 0 (by rw [← hsh]; exact hret) hnd (fun n o b off _ hO hl hb => by
        rcases hcc.far n o b off hO hl hb with h | h
        · have h : w.heap.size ≤ b := h
          exact ⟨by omega, .inl (Nat.le_trans hc.size h)⟩
        · exact h.elim) (fun _ => hsh) (by
        intro i hi
        exact hfr i hi) (fun h => by cases h)
    rw [← hu]
    refine ⟨_, S, β2, rfl, h3, ?_, groupAV_rel (unpack_sizes _ _ _ _) h6 hres hv⟩
    refine le_trans_same le2 h4 ?_
    intro n o1 o2 ho1 _ _
    simp only [Fr.rp] at ho1 ⊢
    exact h5 n (by rw [ho1]; simp)
end
end Go.Proofs.R

