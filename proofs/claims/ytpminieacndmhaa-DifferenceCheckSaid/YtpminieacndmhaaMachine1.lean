/- The evaluator of the model's code over told values, and that what it tells is so: part 2. No condition. -/
import Derived.Test.YtpminieacndmhaaMachine0
import Derived.Laws.CopyRow
import Derived.WideKeyRuns
import Derived.Maps.RangeRun
set_option linter.unusedVariables false
set_option linter.unusedSimpArgs false
namespace Go.Proofs.R
open Go
section
variable {P : Program} {c : Ctx}
variable {F : Fr} {S : CellSet} {β : Nat → Place} {O : Nat → Option AObj} {w : World} {a : Act} {σ : List (Nat × AV)} {o : Oper} {next : Act → World → Prop} {Q : Exit → Act → World → Prop}

/-- a row gives way to a longer one -/
theorem Core.append (h : Core F S β O w) {n m : Nat} {e : TypeId} {t : Ty} {xs ys : List t.V} {fz : Bool} (hn : O n = some (.row e t xs fz)) (hm : O m = none) (hl : xs.length ≤ ys.length) {pl : Place} {w' : World}
    (os : w'.os = w.os) (tape : w'.tape = w.tape) (output : w'.output = w.output) (size : w.heap.size ≤ w'.heap.size)
    (blocks : ∀ k, k < w.heap.size → (∀ off, (β n).1 ≠ some (k, off)) → w'.heap[k]? = w.heap[k]?)
    (cells : ∀ b i v, S b i → cellAt w b i = some v → cellAt w' b i = some v)
    (hpl : pl = β n ∨ ∃ b, pl.1 = some (b, 0) ∧ w.heap.size ≤ b ∧ b < w'.heap.size) {e' : TypeId}
    (hobj : ∀ q : RP, (F.rp S β O w).le q → q.β m = pl → q.w = w' → ObjR q m (.row e' t ys fz)) :
    ∃ S', Core F S' (upd β m pl) (over [(n, .dead), (m, .row e' t ys fz)] O) w' ∧ (F.rp S β O w).le (F.rp S' (upd β m pl) (over [(n, .dead), (m, .row e' t ys fz)] O) w') := by
  have hnm : n ≠ m := by rintro rfl; rw [hn] at hm; cases hm
  have hOn : over [(n, .dead), (m, .row e' t ys fz)] O n = some .dead := by simp [over, lkp_cons]
  have hOm : over [(n, .dead), (m, .row e' t ys fz)] O m = some (.row e' t ys fz) := by simp [over, lkp_cons, Ne.symm hnm]
  have hOo : ∀ k, k ≠ n → k ≠ m → over [(n, .dead), (m, .row e' t ys fz)] O k = O k := by
    intro k h1 h2
    have e0 : lkp ([] : Upd) k = none := rfl
    simp [over, lkp_cons, h1, h2, e0]
  have hobjn := h.obj n _ hn
  refine ⟨fun b i => S b i ∨ (fz = true ∧ rowCells (upd β m pl) m (ys.length * t.size) b i), ?_⟩
  have hplb : ∀ b off, pl.1 = some (b, off) → (F.w0.heap.size ≤ b ∨ F.X b) ∧ b < w'.heap.size := by
    intro b off hb
    rcases hpl with rfl | ⟨b', h1, h2, h3⟩
    · exact ⟨h.far n _ b off hn rfl hb, Nat.lt_of_lt_of_le (ObjR_block hobjn rfl hb) size⟩
    · rw [h1] at hb; simp only [Option.some.injEq, Prod.mk.injEq] at hb; obtain ⟨rfl, _⟩ := hb
      exact ⟨.inl (by have := h.size; omega), h3⟩
  have hother : ∀ k ok b off off', k ≠ n → k ≠ m → O k = some ok → ok.live = true → (β k).1 = some (b, off) → pl.1 = some (b, off') → False := by
    intro k ok b off off' h1 _ hk hlk hb hb'
    rcases hpl with rfl | ⟨b', h3, h4, _⟩
    · exact h1 (h.apart k n ok _ b off off' hk hn hlk rfl hb hb')
    · rw [h3] at hb'; simp only [Option.some.injEq, Prod.mk.injEq] at hb'; obtain ⟨rfl, _⟩ := hb'
      have := ObjR_block (h.obj k ok hk) hlk hb
      simp only [Fr.rp] at this; omega
  refine h.change (fun k => k = n ∨ k = m) os tape output size ?_ (fun _ _ h => .inl h) cells ?_ ?_ ?_ ?_ ?_ ?_ ?_ ?_ ?_
  · intro k hk hb
    exact blocks k hk (fun off => hb n _ off hn rfl (.inl rfl))
  · intro k hk
    simp only [not_or] at hk
    exact ⟨hOo k hk.1 hk.2, upd_ne _ _ _ _ hk.2⟩
  · rintro k ok hk (rfl | rfl)
    · rw [hn] at hk; cases hk
      exact ⟨.dead, hOn, .inl rfl, fun h => by cases h⟩
    · rw [hm] at hk; cases hk
  · rintro le k ok hk (rfl | rfl)
    · rw [hOn] at hk; cases hk; trivial
    · rw [hOm] at hk; cases hk
      exact hobj _ le (upd_same _ _ _) rfl
  · rintro k ok b off (rfl | rfl) hk hlk hb
    · rw [hOn] at hk; cases hk; cases hlk
    · rw [upd_same] at hb; exact (hplb b off hb).1
  · rintro k k' ok ok' b x y (rfl | rfl) hk hk' hlk hlk' hb hb'
    · rw [hOn] at hk; cases hk; cases hlk
    · by_cases e1 : k' = k
      · exact e1.symm
      · exfalso
        rw [upd_same] at hb
        rw [upd_ne _ _ _ _ e1] at hb'
        by_cases e2 : k' = n
        · rw [e2, hOn] at hk'; cases hk'; cases hlk'
        · rw [hOo k' e2 e1] at hk'
          exact hother k' ok' b y x e2 e1 hk' hlk' hb' hb
  · rintro b i (hs | ⟨_, off, hb, _, _⟩)
    · exact .inl hs
    · rw [upd_same] at hb; exact .inr (.inr (hplb b off hb).1)
  · rintro b i (hs | ⟨_, off, hb, _, _⟩)
    · exact Nat.lt_of_lt_of_le (h.dom b i hs) size
    · rw [upd_same] at hb; exact (hplb b off hb).2
  · rintro b i k ok off hs hk hlk hb
    by_cases e1 : k = m
    · subst e1
      rw [hOm] at hk; cases hk
      rw [upd_same] at hb
      rcases hs with hs | ⟨rfl, off', hb', h1, h2⟩
      · rcases hpl with rfl | ⟨b', h3, h4, _⟩
        · obtain ⟨e1, t1, xs1, h5, h6⟩ := h.still b i n _ off hs hn rfl hb
          cases h5
          refine ⟨_, _, _, rfl, Nat.lt_of_lt_of_le h6 ?_⟩
          have := Nat.mul_le_mul_right t.size hl
          omega
        · rw [h3] at hb; simp only [Option.some.injEq, Prod.mk.injEq] at hb; obtain ⟨rfl, _⟩ := hb
          have := h.dom b' i hs; omega
      · rw [upd_same] at hb'
        rw [hb'] at hb; simp only [Option.some.injEq, Prod.mk.injEq, true_and] at hb; subst hb
        exact ⟨_, _, _, rfl, h2⟩
    · rw [upd_ne _ _ _ _ e1] at hb
      by_cases e2 : k = n
      · rw [e2, hOn] at hk; cases hk; cases hlk
      · rw [hOo k e2 e1] at hk
        rcases hs with hs | ⟨_, off', hb', _, _⟩
        · exact h.still b i k ok off hs hk hlk hb
        · rw [upd_same] at hb'
          exact (hother k ok b off off' e2 e1 hk hlk hb hb').elim
  · rintro k e1 t1 xs1 b off i (rfl | rfl) hk hb h1 h2
    · rw [hOn] at hk; cases hk
    · rw [hOm] at hk; cases hk
      exact .inr ⟨rfl, off, hb, h1, h2⟩

/-- an empty row, without memory -/
theorem Core.newNil (h : Core F S β O w) {m : Nat} {e : TypeId} {t : Ty} (hm : O m = none) :
    Core F S (upd β m (none, 0)) (over [(m, .row e t [] false)] O) w ∧ (F.rp S β O w).le (F.rp S (upd β m (none, 0)) (over [(m, .row e t [] false)] O) w) := by
  rw [over_cons, over_nil]
  refine h.change (fun k => k = m) rfl rfl rfl (Nat.le_refl _) (fun _ _ _ => rfl) (fun _ _ h => h) (fun _ _ _ _ h => h) ?_ ?_ ?_ ?_ ?_ (fun _ _ h => .inl h) h.dom ?_ ?_
  · intro k hk; exact ⟨upd_ne _ _ _ _ hk, upd_ne _ _ _ _ hk⟩
  · rintro k ok hk rfl; rw [hm] at hk; cases hk
  · rintro le k ok hk rfl
    rw [upd_same] at hk; cases hk
    exact .inl ⟨by simp [Fr.rp, upd_same], rfl⟩
  · rintro k ok b off rfl _ _ hb
    rw [upd_same] at hb; cases hb
  · rintro k k' ok ok' b x y rfl _ _ _ _ hb _
    rw [upd_same] at hb; cases hb
  · rintro b i k ok off hs hk hlk hb
    by_cases e1 : k = m
    · subst e1; rw [upd_same] at hb; cases hb
    · rw [upd_ne _ _ _ _ e1] at hk hb
      exact h.still b i k ok off hs hk hlk hb
  · rintro k e1 t1 xs1 b off i rfl hk _ _ _
    rw [upd_same] at hk; cases hk

theorem growBy_le (n : Nat) : ∀ (r k : Nat), 256 ≤ k → Builtin.growBy n r k ≤ max k (2 * n)
  | 0, k, _ => by simp only [Builtin.growBy]; omega
  | r + 1, k, h => by
    simp only [Builtin.growBy]
    split
    · omega
    · rename_i hk
      have := growBy_le n r (k + (k + 768) / 4) (by omega)
      omega
theorem nextcap_le {n k : Nat} (h : k < n) : Builtin.nextslicecap n k ≤ 2 * n := by
  unfold Builtin.nextslicecap
  split
  · omega
  · split
    · omega
    · have := growBy_le n 4 k (by omega); omega

theorem ints_rd (S : CellSet) (w : World) : ∀ l : List UInt8, RdsOf (Rd S w (.int .u8)) (l.map fun b => .int .u8 b.toNat) (l.map fun b => (b.toNat : Int))
  | [] => rfl
  | b :: l => ⟨[.int .u8 b.toNat], l.map fun b => .int .u8 b.toNat, rfl, rfl, ints_rd S w l⟩

/-- where a slice's content comes from -/
theorem src_cells {p : RP} {lk : Nat → Option AObj} (hlk : ∀ n o, lk n = some o → p.O n = some o) (hob : ∀ n o, p.O n = some o → ObjR p n o) {l : Lf} {v : Value} (hr : RelL p l [v]) {q : Σ t : Ty, List t.V} (h : rowsOf lk l = some q) :
    ∃ cs, (∀ w' : World, (Builtin.lenOf v).run P w' = .ok q.2.length w') ∧ RdsOf (Rd p.S p.w q.1) cs q.2 ∧ ∀ w' : World, w'.heap = p.w.heap → (Builtin.firstCells q.1.size q.2.length v).run P w' = .ok cs.toArray w' := by
  have hcell : ∀ (w' : World) b i, w'.heap = p.w.heap → cellAt w' b i = cellAt p.w b i := fun w' b i hw => cellAt_block (by rw [hw])
  have hload : ∀ (w' : World) (b o : Nat) (cs : List Value), w'.heap = p.w.heap → (∀ j v, cs[j]? = some v → cellAt p.w b (o + j) = some v) → (loadCells ⟨b, o, none⟩ cs.length).run P w' = .ok cs.toArray w' := by
    intro w' b o cs hw hc
    refine run_loadCells_list (P := P) w' ⟨b, o, none⟩ cs ?_
    intro j v hj; rw [add_at]
    have := hc j v hj
    rw [← hcell w' b _ hw] at this; exact this
  unfold rowsOf at h
  split at h
  · rename_i st
    cases h
    simp only [RelL, Rd, List.cons.injEq, and_true] at hr
    subst hr
    have hlen : (ints st).length = st.size := by unfold ints; rw [List.length_map, Array.length_toList]; rfl
    refine ⟨st.data.toList.map fun b => .int .u8 b.toNat, fun w' => ?_, ?_, fun w' _ => ?_⟩
    · simp only [hlen]; rfl
    · exact ints_rd _ _ st.data.toList
    · simp only [hlen, Builtin.firstCells]
      have he : st.extract 0 st.size = st := by simp
      rw [he, Sem.run_pure]
      congr 1
      apply Array.ext'
      simp
  · rename_i t xs
    cases h
    obtain ⟨A, cap, e, hl, hx⟩ := hr
    simp only [List.cons.injEq, and_true] at e
    rcases hx with rfl | ⟨b, o, ds, rfl, h1, h2⟩
    · refine ⟨[], fun w' => by rw [e]; rfl, rfl, ?_⟩
      intro w' _
      subst e
      cases A <;> simp [Builtin.firstCells, loadCells, loadCellsFrom]
    · refine ⟨ds, fun w' => by rw [e]; rfl, h1, ?_⟩
      intro w' hw
      subst e
      have := hload w' b o ds hw (At_cells h2)
      rw [RdsOf_len (fun _ _ => Rd_len t) h1] at this
      simp [Builtin.firstCells, this]
  · rename_i e0 t
    cases h
    simp only [RelL, List.cons.injEq, and_true] at hr
    refine ⟨[], fun w' => by rw [hr]; rfl, rfl, ?_⟩
    intro w' _
    subst hr
    simp [Builtin.firstCells]
  · rename_i n
    split at h
    · rename_i e0 t xs fz hl
      cases h
      have hO := hlk n _ hl
      unfold RelL at hr; rw [hO] at hr; simp only [List.cons.injEq, and_true] at hr
      rcases hob n _ hO with ⟨h1, rfl⟩ | ⟨b, o, arr, cs, rest, h1, h2, h3, h4, h5, _⟩
      · refine ⟨[], fun w' => by rw [hr, h1]; rfl, rfl, ?_⟩
        intro w' _
        rw [hr, h1]
        simp [Builtin.firstCells, addrOf]
      · refine ⟨cs, fun w' => by rw [hr]; rfl, h5, ?_⟩
        intro w' hw
        have hc2 : ∀ j v, cs[j]? = some v → cellAt p.w b (o + j) = some v := by
          intro j v hj
          have : (arr.toList.drop o)[j]? = some v := by
            rw [h4, List.getElem?_append_left (List.getElem?_eq_some_iff.1 hj).1]; exact hj
          rw [List.getElem?_drop] at this
          have := arr_cells h2 (o + j) v this
          simpa using this
        have := hload w' b o cs hw hc2
        rw [RdsOf_len (fun _ _ => Rd_len t) h5] at this
        rw [hr, h1]
        simp [Builtin.firstCells, addrOf, this]
    · cases h
  · cases h
end
end Go.Proofs.R

/- Each operation does in memory what the evaluator tells: append, len, make. -/
namespace Go.Proofs.R
open Go
section
variable {P : Program} {c : Ctx}
variable {F : Fr} {S : CellSet} {β : Nat → Place} {O : Nat → Option AObj} {w : World} {a : Act} {σ : List (Nat × AV)} {o : Oper} {next : Act → World → Prop} {Q : Exit → Act → World → Prop}

/-- the run of append where there is room -/
theorem append_room {T U : TypeId} {e : TypeId} (hT : P.underlying T = some (.slice e)) (hU : (∃ eu, P.underlying U = some (.slice eu)) ∨ P.underlying U = some .string) {sz : Nat} (hs : ∀ w, (sizeOf e).run P w = .ok sz w) {ty : TypeId}
    {base : Option Addr} {n k cap : Nat} {x : Value} (hx : ∀ w : World, (Builtin.lenOf x).run P w = .ok k w) {cs : Array Value} {w w' : World} (hf : (Builtin.firstCells sz k x).run P w = .ok cs w) (hle : n + k ≤ cap)
    (hst : ∀ ad, base = some ad → (storeCells (ad.add (n * sz)) cs.toList).run P w = .ok () w') (hno : base = none → w' = w) :
    (Builtin.append_ #[T, U] ty #[.slice base n cap, x]).run P w = .ok (.slice base (n + k) cap) w' := by
  cases base with
  | none =>
    have := hno rfl; subst this
    rcases hU with ⟨eu, hU⟩ | hU <;> simp [Builtin.append_, run_underlying hT, run_underlying hU, hs, hx, hle, hf]
  | some ad =>
    have h1 := hst ad rfl
    rcases hU with ⟨eu, hU⟩ | hU <;> simp [Builtin.append_, run_underlying hT, run_underlying hU, hs, hx, hle, hf, h1]

/-- the run of append where a new row is made -/
theorem append_grow {T U : TypeId} {e : TypeId} (hT : P.underlying T = some (.slice e)) (hU : (∃ eu, P.underlying U = some (.slice eu)) ∨ P.underlying U = some .string) {i : TypeInfo} (hi : P.info? e = some i) {z : Value} (hz : i.zero = some z) (hb : i.bytes ≤ 8192) {ty : TypeId}
    {base : Option Addr} {n k cap : Nat} {x : Value} (hx : ∀ w : World, (Builtin.lenOf x).run P w = .ok k w) {cs ds : Array Value} {w : World}
    (hf : ∀ w' : World, w'.heap = w.heap → (Builtin.firstCells i.size k x).run P w' = .ok cs w') (ho : ∀ w' : World, w'.heap = w.heap → (Builtin.firstCells i.size n (.slice base n cap)).run P w' = .ok ds w') (hgt : cap < n + k) (hle : n + k ≤ mostLen) :
    ∃ newCap, n + k ≤ newCap ∧ (Builtin.append_ #[T, U] ty #[.slice base n cap, x]).run P w =
      .ok (.slice (some ⟨w.heap.size, 0, none⟩) (n + k) newCap) { w with drawn := w.drawn + 1, heap := w.heap.push (.cells (ds ++ cs ++ Builtin.zeroCells z.cells (newCap - (n + k))) e) } := by
  unfold mostLen at hle
  have h1 : ¬ (n + k ≤ cap) := by omega
  have h2 : ¬ (((n + k : Nat) : Int) > IntKind.i64.max) := by
    have : IntKind.i64.max = 9223372036854775807 := by decide
    rw [this]; omega
  have h3 : ¬ (Builtin.nextslicecap (n + k) cap * i.bytes > 2 ^ 48) := by
    have := nextcap_le hgt
    have : Builtin.nextslicecap (n + k) cap * i.bytes ≤ (2 * (n + k)) * 8192 := Nat.mul_le_mul this hb
    omega
  refine ⟨(Question.appendCap (n + k) cap e).cut (w.tape w.drawn (Question.appendCap (n + k) cap e)), by simp [Question.cut], ?_⟩
  have h2' : ¬ ((9223372036854775807 : Int) < ((n : Int) + (k : Int))) := by omega
  rcases hU with ⟨eu, hU⟩ | hU
  all_goals
    simp only [Builtin.append_, run_underlying hT, run_underlying hU, sizeOf, typeInfo, hi, Sem.run_bind, Sem.run_pure, Result.andThen_ok, run_program, hx, h1, if_false, h3, zeroValue, hz,
      List.getElem?_toArray, List.getElem?_cons_zero, List.getElem?_cons_succ, Array.getElem?_toList, Sem.run_ite, h2, false_and, run_choose, Question.forced, Bool.false_eq_true, run_askRoom]
    rw [ho { w with drawn := w.drawn + 1 } rfl]
    simp only [Result.andThen_ok, Bool.not_false, if_true]
    rw [hf { w with drawn := w.drawn + 1 } rfl]
    simp [newRow]
    rfl

theorem zeroCells_size (z : Array Value) (n : Nat) : (Builtin.zeroCells z n).size = n * z.size := by simp [Builtin.zeroCells]
theorem zeroCells_one {z : Array Value} (h : ∀ v ∈ z.toList, v.oneCell' = true) (n : Nat) : ∀ v ∈ (Builtin.zeroCells z n).toList, v.oneCell' = true := by
  intro v hv
  simp only [Builtin.zeroCells, Array.toList_map, List.mem_map, Array.toList_range, List.mem_range] at hv
  obtain ⟨i, hi, rfl⟩ := hv
  have hz : 0 < z.size := by
    rcases Nat.eq_zero_or_pos z.size with h0 | h0
    · rw [h0] at hi; omega
    · exact h0
  have hlt : i % z.size < z.size := Nat.mod_lt _ hz
  rw [getElem!_pos z _ hlt]
  exact h _ (by simp)

theorem castV_len {t u : Ty} {x : List t.V} {y : List u.V} (h : castV (.sl t) (.sl u) x = some y) : ∃ e : t = u, e ▸ x = y := by
  obtain ⟨e, h1⟩ := castV_eq h
  cases e
  exact ⟨rfl, h1⟩

theorem grow_le {n : Nat} {u : Unit} (h : grow n = some u) : n ≤ mostLen := by
  unfold grow at h; split at h
  · assumption
  · cases h

/-- the cells of a row of the call's own -/
theorem row_src {p : RP} {n : Nat} {e : TypeId} {t : Ty} {xs : List t.V} {fz : Bool} (h : ObjR p n (.row e t xs fz)) :
    ∃ cs, RdsOf (Rd p.S p.w t) cs xs ∧ xs.length ≤ (p.β n).2 ∧ (∀ w' : World, w'.heap = p.w.heap → (Builtin.firstCells t.size xs.length (.slice (addrOf (p.β n).1) xs.length (p.β n).2)).run P w' = .ok cs.toArray w') := by
  rcases h with ⟨h1, rfl⟩ | ⟨b, o, arr, cs, rest, h1, h2, h3, h4, h5, _⟩
  · refine ⟨[], rfl, Nat.zero_le _, ?_⟩
    intro w' _
    rw [h1]
    simp [Builtin.firstCells, addrOf]
  · refine ⟨cs, h5, h3, ?_⟩
    intro w' hw
    have hc2 : ∀ j v, cs[j]? = some v → w'.cell? ((⟨b, o, none⟩ : Addr).add j) = some v := by
      intro j v hj
      have : (arr.toList.drop o)[j]? = some v := by
        rw [h4, List.getElem?_append_left (List.getElem?_eq_some_iff.1 hj).1]; exact hj
      rw [List.getElem?_drop] at this
      have h6 := arr_cells h2 (o + j) v this
      rw [add_at]
      have h7 : cellAt w' b (o + j) = cellAt p.w b (o + j) := cellAt_block (by rw [hw])
      rw [Nat.zero_add] at h6
      exact h7.trans h6
    have := run_loadCells_list (P := P) w' ⟨b, o, none⟩ cs hc2
    rw [RdsOf_len (fun _ _ => Rd_len t) h5] at this
    rw [h1]
    simp [Builtin.firstCells, addrOf, this]

theorem appendOp_run (hE : EnvOk P c) (hc : Core F S β O w) {lk : Nat → Option AObj} (hlk : ∀ n o, lk n = some o → O n = some o) {d : Nat} (hd : O (d * 8) = none) {T U : TypeId} (hU : (slOk c U || strOk c U) = true) {s x : Lf} {vs vx : Value}
    (hs : RelL (F.rp S β O w) s [vs]) (hx : RelL (F.rp S β O w) x [vx]) {av : AV} {u : Upd} (h : appendOp c lk d T s x two = some (av, u)) (ty : TypeId) :
    ∃ v w' S' β', (Builtin.append_ #[T, U] ty #[vs, vx]).run P w = .ok v w' ∧ Core F S' β' (over u O) w' ∧ (F.rp S β O w).le (F.rp S' β' (over u O) w') ∧ RelAV (F.rp S' β' (over u O) w') av v := by
  have hUu : (∃ eu, P.underlying U = some (.slice eu)) ∨ P.underlying U = some .string := by
    rcases Bool.or_eq_true_iff.1 hU with hU | hU
    · exact .inl (slOk_spec hE hU)
    · exact .inr (strOk_spec hE hU)
  unfold appendOp at h
  simp only [Option.bind_eq_some_iff] at h
  obtain ⟨te, hte, h⟩ := h
  split at h
  · rename_i e hde
    simp only [Option.bind_eq_some_iff] at h
    obtain ⟨ys, hys, h⟩ := h
    cases hel : eltOk c T ys.1 with
    | false => rw [hel] at h; cases h
    | true =>
      rw [hel] at h; simp only [cond_true] at h
      obtain ⟨e', ee, hTu, hee, hsz, hpos, te', hte', hde'⟩ := eltOk_spec hE hel
      rw [hte] at hte'; cases hte'
      rw [hde] at hde'; cases hde'
      obtain ⟨t0, ys⟩ := ys
      simp only at hsz hpos h
      obtain ⟨i, z, hi, hisz, hib, hiz, hzr, hz1, hzs⟩ := (hE.te e ee hee).info
      obtain ⟨cs, hvx, hrd, hfirst⟩ := src_cells (P := P) hlk hc.obj hx hys
      simp only [Fr.rp] at hrd hfirst hvx
      have hcl : cs.length = ys.length * t0.size := RdsOf_len (fun _ _ => Rd_len t0) hrd
      have hc1 : ∀ v ∈ cs, v.oneCell' = true := RdsOf_one (fun _ _ => Rd_one t0) hrd
      split at h
      · -- onto nil
        rename_i e1 t
        cases hb : Nat.beq e e1 with
        | false => rw [hb] at h; cases h
        | true =>
          rw [hb] at h
          simp only [cond_true, bindD, Option.bind_eq_some_iff, two, Option.some.injEq, Prod.mk.injEq] at h
          obtain ⟨zs, hzs1, _, hg, rfl, rfl⟩ := h
          obtain ⟨ec, hzs2⟩ := castV_len hzs1
          cases ec
          have hzs3 : ys = zs := hzs2
          subst hzs3
          simp only [RelL, List.cons.injEq, and_true] at hs
          subst hs
          have hgl := grow_le hg
          rcases Nat.eq_zero_or_pos ys.length with h0 | h0
          · have : ys = [] := List.eq_nil_of_length_eq_zero h0
            subst this
            obtain ⟨h1, h2⟩ := hc.newNil (e := e) (t := t0) hd
            refine ⟨.slice none 0 0, w, S, _, ?_, h1, h2, .inr ?_⟩
            · have := append_room (P := P) hTu hUu (sz := ee.sz) (fun w => sizeOf_run (hE.te e ee hee) w) (ty := ty) (base := none) (n := 0) (cap := 0) hvx (by rw [hsz]; exact hfirst w rfl) (by simp) (w' := w) (by intro ad hh; cases hh) (fun _ => rfl)
              simpa using this
            · unfold RelL; simp [Fr.rp, over, lkp_cons, upd_same, addrOf]
          · obtain ⟨nc, hnc, hrun⟩ := append_grow (P := P) hTu hUu hi hiz hib (ty := ty) (base := none) (n := 0) (cap := 0) hvx (cs := cs.toArray) (ds := #[]) (w := w)
              (fun w' hw => by rw [hisz, hsz]; exact hfirst w' hw) (fun w' _ => by simp [Builtin.firstCells]) (by omega) (by omega)
            obtain ⟨hcd, hld⟩ := hc.drawn (w.drawn + 1)
            obtain ⟨h1, h2⟩ := hcd.new hd (.row e t0 ys false) (by intro _ _ _ hh; cases hh) (.cells (#[] ++ cs.toArray ++ Builtin.zeroCells z.cells (nc - (0 + ys.length))) e) nc (by
              intro q hq hb hw
              refine .inr ⟨w.heap.size, 0, _, cs, (Builtin.zeroCells z.cells (nc - (0 + ys.length))).toList, by rw [hb], hw, by rw [hb]; simpa using hnc, by simp, ?_, ?_, by simp, ?_⟩
              · exact RdsOf_mono (fun _ _ => Rd_mono (fun b i hs => hq.S b i (hld.S b i hs)) (fun b i v hs hc => hq.cells b i v (.inl (hld.S b i hs)) (hld.cells b i v (.inl hs) hc)) t0) hrd
              · rw [hb]
                simp only [Array.size_append, List.size_toArray, List.length_nil, zeroCells_size, hcl, hzs, hsz]
                have : nc = ys.length + (nc - (0 + ys.length)) := by omega
                conv => lhs; rw [this]
                rw [Nat.add_mul]; omega
              · intro v hv
                simp only [Array.toList_append, List.toList_toArray, List.nil_append, List.mem_append] at hv
                rcases hv with hv | hv
                · exact hc1 v hv
                · exact zeroCells_one hz1 _ v hv)
            refine ⟨_, _, S, _, hrun, by rw [over_cons, over_nil]; exact h1, ?_, .inr ?_⟩
            · rw [over_cons, over_nil]
              exact le_trans_same hld h2 (fun n o o' ho ho' _ => by
                simp only [Fr.rp] at ho ⊢
                exact upd_ne _ _ _ _ (by rintro rfl; rw [hd] at ho; cases ho))
            · unfold RelL; simp [Fr.rp, over, lkp_cons, upd_same, addrOf]
      · -- onto a row
        rename_i n
        split at h
        · rename_i e1 t xs fz hln
          cases hb : Nat.beq e e1 with
          | false => rw [hb] at h; cases h
          | true =>
            rw [hb] at h
            simp only [cond_true, bindD, Option.bind_eq_some_iff, two, Option.some.injEq, Prod.mk.injEq] at h
            obtain ⟨zs, hzs1, _, hg, rfl, rfl⟩ := h
            obtain ⟨ec, hzs2⟩ := castV_len hzs1
            cases ec
            have hzs3 : ys = zs := hzs2
            subst hzs3
            obtain rfl := beq_sz hb
            have hO := hlk n _ hln
            have hobj := hc.obj n _ hO
            have hgl := grow_le hg
            unfold RelL at hs; simp only [Fr.rp] at hs; rw [hO] at hs
            simp only [List.cons.injEq, and_true] at hs
            subst hs
            have hnd : n ≠ d * 8 := by rintro rfl; rw [hd] at hO; cases hO
            have hOm : over [(n, AObj.dead), (d * 8, .row e t0 (xs ++ ys) fz)] O (d * 8) = some (.row e t0 (xs ++ ys) fz) := by simp [over, lkp_cons, Ne.symm hnd]
            by_cases hroom : xs.length + ys.length ≤ (β n).2
            · -- in place
              rcases hobj with ⟨h1, h2⟩ | ⟨b, off, arr, cx0, rest, h1, h2, h3, h4, h5, h6, h7, h8⟩
              · simp only [Fr.rp] at h1
                subst h2
                rw [h1] at hroom
                have hy0 : ys = [] := List.eq_nil_of_length_eq_zero (by simpa using hroom)
                subst hy0
                obtain ⟨S', h9, h10⟩ := hc.append hO hd (ys := ([] ++ [] : List t0.V)) (by simp) (pl := β n) (w' := w) rfl rfl rfl (Nat.le_refl _) (fun _ _ _ => rfl) (fun _ _ _ _ hh => hh) (.inl rfl) (e' := e) (by
                  intro q _ hb _
                  exact .inl ⟨by rw [hb]; exact h1, rfl⟩)
                refine ⟨.slice none 0 0, w, S', _, ?_, h9, h10, .inr ?_⟩
                · have := append_room (P := P) hTu hUu (sz := ee.sz) (fun w => sizeOf_run (hE.te e ee hee) w) (ty := ty) (base := none) (n := 0) (cap := 0) hvx (by rw [hsz]; exact hfirst w rfl) (by simp) (w' := w) (by intro ad hh; cases hh) (fun _ => rfl)
                  rw [h1]; simpa [addrOf] using this
                · unfold RelL; simp only [Fr.rp]; rw [hOm]; simp [upd_same, h1, addrOf]
              · simp only [Fr.rp] at h1 h2 h3 h5 h6
                have hxl : cx0.length = xs.length * t0.size := RdsOf_len (fun _ _ => Rd_len t0) h5
                have hle1 : off + xs.length * t0.size + ys.length * t0.size ≤ arr.size := by
                  have := Nat.mul_le_mul_right t0.size hroom
                  rw [Nat.add_mul] at this; omega
                have hst := run_storeCells_at (P := P) b (off + xs.length * t0.size) e cs 0 arr w h2 (by rw [hcl]; omega) hc1
                have hrest : rest.length = arr.size - (off + xs.length * t0.size) := by
                  have := congrArg List.length h4
                  simp only [List.length_drop, Array.length_toList, List.length_append] at this
                  omega
                have e1 : arr.toList.take (off + xs.length * t0.size + 0) = arr.toList.take off ++ cx0 := by
                  rw [Nat.add_zero, List.take_add, h4, ← hxl, List.take_left]
                have e2 : arr.toList.drop (off + xs.length * t0.size + 0 + cs.length) = rest.drop cs.length := by
                  rw [Nat.add_zero, Nat.add_assoc, ← List.drop_drop, h4, ← List.drop_drop, ← hxl, List.drop_left]
                rw [e1, e2] at hst
                have htl : (arr.toList.take off).length = off := by rw [List.length_take]; simp; omega
                obtain ⟨S', h9, h10⟩ := hc.append hO hd (ys := xs ++ ys) (by simp) (pl := β n) (w' := w.setRow b (arr.toList.take off ++ cx0 ++ cs ++ rest.drop cs.length).toArray) rfl rfl rfl (by simp)
                  (by intro k _ hk; exact setRow_other w b k _ (by rintro rfl; exact hk off h1))
                  (by
                    intro b' i v hsb hcl'
                    by_cases hbb : b' = b
                    · subst hbb
                      obtain ⟨e3, t3, xs3, h11, h12⟩ := hc.still b' i n _ off hsb hO rfl h1
                      cases h11
                      have hcell : ∀ (l : List Value), i < l.length → cellAt (w.setRow b' (l ++ cs ++ rest.drop cs.length).toArray) b' i = l[i]? := by
                        intro l hl
                        unfold cellAt
                        rw [cell_setRow_same w b' i arr _ e (0, 0) h2]
                        simp only [List.append_assoc, List.getElem?_toArray]
                        rw [List.getElem?_append_left hl]
                      rw [hcell _ (by rw [List.length_append, htl, hxl]; exact h12)]
                      have : arr.toList[i]? = some v := by
                        unfold cellAt World.cell? at hcl'
                        rw [h2] at hcl'
                        simpa using hcl'
                      rw [← this]
                      have e4 : arr.toList = (arr.toList.take off ++ cx0) ++ rest := by
                        rw [List.append_assoc, ← h4, List.take_append_drop]
                      have e5 : arr.toList[i]? = ((arr.toList.take off ++ cx0) ++ rest)[i]? := congrArg (fun l : List Value => l[i]?) e4
                      exact (e5.trans (List.getElem?_append_left (by rw [List.length_append, htl, hxl]; exact h12))).symm
                    · rw [← hcl']; exact cellAt_block (setRow_other w b b' _ hbb))
                  (.inl rfl) (e' := e) (by
                    intro q hq hb hw
                    refine .inr ⟨b, off, _, cx0 ++ cs, rest.drop cs.length, by rw [hb]; exact h1, by rw [hw]; exact setRow_heap w b arr _ e (0, 0) h2, by rw [hb, List.length_append]; exact hroom, ?_, ?_, ?_, ?_, ?_⟩
                    · simp only [List.append_assoc]
                      exact List.drop_left' htl
                    · exact RdsOf_append (RdsOf_mono (fun _ _ => Rd_mono hq.S (fun b i v hs => hq.cells b i v (.inl hs)) t0) h5) (RdsOf_mono (fun _ _ => Rd_mono hq.S (fun b i v hs => hq.cells b i v (.inl hs)) t0) hrd)
                    · rw [hb]
                      simp only [List.size_toArray, List.length_append, List.length_drop, htl, hxl, hcl, hrest]
                      omega
                    · simp only [List.size_toArray, List.length_append, htl]; omega
                    · intro v hv
                      have hin : ∀ v, v ∈ arr.toList.take off ∨ v ∈ cx0 ∨ v ∈ rest → v.oneCell' = true := by
                        intro v hv
                        refine h8 v ?_
                        rw [← List.take_append_drop off arr.toList, h4]
                        simp only [List.mem_append]
                        rcases hv with h | h | h <;> simp [h]
                      simp only [List.append_assoc, List.mem_append] at hv
                      rcases hv with h | h | h | h
                      · exact hin v (.inl h)
                      · exact hin v (.inr (.inl h))
                      · exact hc1 v h
                      · exact hin v (.inr (.inr (List.mem_of_mem_drop h))))
                refine ⟨.slice (addrOf (β n).1) (xs.length + ys.length) (β n).2, _, S', _, ?_, h9, h10, .inr ?_⟩
                · refine append_room (P := P) hTu hUu (sz := ee.sz) (fun w => sizeOf_run (hE.te e ee hee) w) (ty := ty) hvx (by rw [hsz]; exact hfirst w rfl) hroom ?_ ?_
                  · intro ad had
                    rw [h1] at had; simp only [addrOf, Option.some.injEq] at had; subst had
                    rw [add_at, hsz]
                    simpa using hst
                  · intro hh; rw [h1] at hh; cases hh
                · unfold RelL; simp only [Fr.rp]; rw [hOm]; simp [upd_same]
            · -- a new row
              obtain ⟨ds, hds, hdcap, hdfirst⟩ := row_src (P := P) hobj
              simp only [Fr.rp] at hds hdcap hdfirst
              have hdl : ds.length = xs.length * t0.size := RdsOf_len (fun _ _ => Rd_len t0) hds
              obtain ⟨nc, hnc, hrun⟩ := append_grow (P := P) hTu hUu hi hiz hib (ty := ty) (base := addrOf (β n).1) (n := xs.length) (cap := (β n).2) hvx (cs := cs.toArray) (ds := ds.toArray) (w := w)
                (fun w' hw => by rw [hisz, hsz]; exact hfirst w' hw) (fun w' hw => by rw [hisz, hsz]; exact hdfirst w' hw) (by omega) hgl
              obtain ⟨S', h9, h10⟩ := hc.append hO hd (ys := xs ++ ys) (by simp) (pl := (some (w.heap.size, 0), nc))
                (w' := { w with drawn := w.drawn + 1, heap := w.heap.push (.cells (ds.toArray ++ cs.toArray ++ Builtin.zeroCells z.cells (nc - (xs.length + ys.length))) e) }) rfl rfl rfl (by simp)
                (fun k hk _ => getElem?_push_lt _ _ _ hk) (fun b i v hsb hcl' => by rw [← hcl']; exact cellAt_block (getElem?_push_lt _ _ _ (hc.dom b i hsb)))
                (.inr ⟨w.heap.size, rfl, Nat.le_refl _, by simp⟩) (e' := e) (by
                  intro q hq hb hw
                  refine .inr ⟨w.heap.size, 0, _, ds ++ cs, (Builtin.zeroCells z.cells (nc - (xs.length + ys.length))).toList, by rw [hb], by rw [hw]; simp; rfl, by rw [hb, List.length_append]; exact hnc, by simp, ?_, ?_, by simp, ?_⟩
                  · exact RdsOf_append (RdsOf_mono (fun _ _ => Rd_mono hq.S (fun b i v hs => hq.cells b i v (.inl hs)) t0) hds) (RdsOf_mono (fun _ _ => Rd_mono hq.S (fun b i v hs => hq.cells b i v (.inl hs)) t0) hrd)
                  · rw [hb]
                    simp only [Array.size_append, List.size_toArray, List.length_append, List.append_toArray, zeroCells_size, hcl, hdl, hzs, hsz]
                    have : nc = xs.length + ys.length + (nc - (xs.length + ys.length)) := by omega
                    conv => lhs; rw [this]
                    rw [Nat.add_mul, Nat.add_mul]; omega
                  · intro v hv
                    simp only [Array.toList_append, List.toList_toArray, List.mem_append] at hv
                    rcases hv with (hv | hv) | hv
                    · exact RdsOf_one (fun _ _ => Rd_one t0) hds v hv
                    · exact hc1 v hv
                    · exact zeroCells_one hz1 _ v hv)
              refine ⟨_, _, S', _, hrun, h9, h10, .inr ?_⟩
              unfold RelL; simp only [Fr.rp]; rw [hOm]; simp [upd_same, addrOf]
        · cases h
      · cases h
  · cases h
end
end Go.Proofs.R

/- Each operation does in memory what the evaluator tells: len, min, closures, slices, literals, make. -/
namespace Go.Proofs.R
open Go
section
variable {P : Program} {c : Ctx}
variable {F : Fr} {S : CellSet} {β : Nat → Place} {O : Nat → Option AObj} {w : World} {a : Act} {σ : List (Nat × AV)} {o : Oper} {next : Act → World → Prop} {Q : Exit → Act → World → Prop}

def RelAVs (p : RP) : List AV → List Value → Prop
  | [], vs => vs = []
  | a :: as, vs => ∃ v r, vs = v :: r ∧ RelAV p a v ∧ RelAVs p as r

theorem gvs_rel (hE : EnvOk P c) {p : RP} (hs : Slots p (lkp σ) a.tmps) : ∀ {xs : List Operand} {ts : List TypeId} {as : List AV}, gvs c σ xs ts = some as → RelAVs p as (xs.map a.eval)
  | [], ts, as, h => by simp only [gvs, Option.some.injEq] at h; subst h; rfl
  | x :: xs, ts, as, h => by
    simp only [gvs, Option.bind_eq_some_iff, Option.some.injEq] at h
    obtain ⟨v, h1, vs, h2, rfl⟩ := h
    exact ⟨_, _, rfl, gv_rel hE hs h1, gvs_rel hE hs h2⟩

theorem len_run (hE : EnvOk P c) {lk : Nat → Option AObj} (hlk : ∀ n o, lk n = some o → O n = some o) {T : TypeId} {l : Lf} {n : Int} (h : lenOp c lk T l = some n) {v : Value} (hr : RelL (F.rp S β O w) l [v]) (ty : TypeId) :
    (Builtin.len_ #[T] ty #[v]).run P w = .ok (.int .i64 n) w := by
  unfold lenOp at h
  split at h
  · cases hb : strOk c T with
    | false => rw [hb] at h; cases h
    | true =>
      rw [hb] at h; simp only [cond_true, Option.some.injEq] at h; subst h
      have hu := strOk_spec hE hb
      simp only [RelL, Rd, List.cons.injEq, and_true] at hr; subst hr
      simp [Builtin.len_, run_underlying hu, goInt]
  · cases hb : slOk c T with
    | false => rw [hb] at h; cases h
    | true =>
      rw [hb] at h; simp only [cond_true, Option.some.injEq] at h; subst h
      obtain ⟨e, hu⟩ := slOk_spec hE hb
      obtain ⟨A, cp, hr, _⟩ := hr
      simp only [List.cons.injEq, and_true] at hr; subst hr
      simp [Builtin.len_, run_underlying hu, goInt]
  · cases hb : slOk c T with
    | false => rw [hb] at h; cases h
    | true =>
      rw [hb] at h; simp only [cond_true, Option.some.injEq] at h; subst h
      obtain ⟨e, hu⟩ := slOk_spec hE hb
      simp only [RelL, List.cons.injEq, and_true] at hr; subst hr
      simp [Builtin.len_, run_underlying hu, goInt]
  · rename_i n
    cases hb : slOk c T with
    | false => rw [hb] at h; cases h
    | true =>
      rw [hb] at h; simp only [cond_true] at h
      obtain ⟨e, hu⟩ := slOk_spec hE hb
      split at h
      · rename_i e0 t xs fz hl
        simp only [Option.some.injEq] at h; subst h
        have hO := hlk n _ hl
        unfold RelL at hr; simp only [Fr.rp] at hr; rw [hO] at hr
        simp only [List.cons.injEq, and_true] at hr; subst hr
        simp [Builtin.len_, run_underlying hu, goInt]
      · cases h
  · cases h

theorem minMax_run {op : Bool} {vs : List AV} {l : Lf} (h : minMax op vs = some l) {p : RP} {us : List Value} (hr : RelAVs p vs us) (ts : Array TypeId) (ty : TypeId) (w : World) :
    ∃ v, (if op then Builtin.min_ ts ty us.toArray else Builtin.max_ ts ty us.toArray).run P w = .ok v w ∧ RelAV p (.one l) v := by
  unfold minMax at h
  split at h
  · rename_i k x k' y
    split at h
    · rename_i e; subst e
      cases h
      obtain ⟨v1, r1, rfl, h1, v2, r2, rfl, h2, h3⟩ := hr
      simp only [RelAVs] at h3; subst h3
      obtain rfl := rel_int h1; obtain rfl := rel_int h2
      refine ⟨_, ?_, of_int _ _ _⟩
      cases op
      · simp [Builtin.max_, Builtin.max2]
      · simp [Builtin.min_, Builtin.min2]
    · cases h
  · cases h

theorem onesL_rel {p : RP} : ∀ {as : List AV} {ls : List Lf} {vs : List Value}, onesL as = some ls → RelAVs p as vs → RelLs p ls vs
  | [], ls, vs, h, hr => by
    simp only [onesL, Option.some.injEq] at h; subst h
    simp only [RelAVs] at hr; subst hr; rfl
  | x :: as, ls, vs, h, ⟨v, r, e, h1, h2⟩ => by
    subst e
    cases x with
    | one l =>
      cases l <;> simp only [onesL, Option.bind_eq_some_iff, Option.some.injEq, reduceCtorEq] at h
      all_goals (obtain ⟨ls', h3, rfl⟩ := h; exact ⟨[v], r, rfl, h1.resolve_left (by simp), onesL_rel h3 h2⟩)
    | agg ls => simp [onesL] at h
    | tup vs => simp [onesL] at h

theorem makeFunc_ok (hE : EnvOk P c) (hc : Core F S β O w) (hs : Slots (F.rp S β O w) (lkp σ) a.tmps) {f : FuncId} {first caps : Array Operand} (ho : o.op = .makeFunc (.func f) first caps) (hf : first.isEmpty = true)
    {as : List AV} (has : gvs c σ caps.toList [] = some as) {ls : List Lf} (hl : onesL as = some ls) (hn : After F S β O (over [] O) w (.one (.clo f ls)) o a next) : o.wp P a w next Q := by
  have hr := onesL_rel hl (gvs_rel hE hs has)
  refine pure_ok hc (v := .func (.func f) #[] (caps.map a.eval)) (av := .one (.clo f ls)) ?_ (.inr ⟨_, rfl, by simpa using hr⟩) hn
  have : first = #[] := by simpa using hf
  simp [execOp, ho, Instr.makeFunc, this]

def OptRel (p : RP) : Option AV → Option Value → Prop
  | none, none => True
  | some a, some u => RelAV p a u
  | _, _ => False
theorem bound_rel {p : RP} {x : Option AV} {d n : Int} (h : boundOf x d = some n) {v : Option Value} (hr : OptRel p x v) :
    (x = none ∧ v = none ∧ n = d) ∨ ∃ k, v = some (.int k n) := by
  unfold boundOf at h
  split at h
  · cases h
    cases v with
    | none => exact .inl ⟨rfl, rfl, rfl⟩
    | some u => exact hr.elim
  · cases h
    cases v with
    | none => exact hr.elim
    | some u => exact .inr ⟨_, by rw [rel_int hr]⟩
  · cases h

theorem bounds_run {isSlice : Bool} {len cap : Nat} {lo hi : Option Value} {l h : Int} (hlo : lo = none ∧ l = 0 ∨ ∃ k, lo = some (.int k l)) (hhi : hi = none ∧ h = len ∨ ∃ k, hi = some (.int k h)) (h0 : 0 ≤ l) (h1 : l ≤ h) (h2 : h ≤ len) (h3 : len ≤ cap) (w : World) :
    (Instr.sliceBounds isSlice len cap lo hi none).run P w = .ok (l.toNat, h.toNat, cap) w := by
  have hh0 : 0 ≤ h := by omega
  have hhc : h ≤ (cap : Int) := by omega
  have hcast : ((h.toNat : Nat) : Int) = h := by omega
  rcases hlo with ⟨rfl, rfl⟩ | ⟨k, rfl⟩ <;> rcases hhi with ⟨rfl, rfl⟩ | ⟨k', rfl⟩
  · simp [Instr.sliceBounds]
  · simp [Instr.sliceBounds, Instr.sliceBound, asIntOf, hh0, hhc]
  · simp [Instr.sliceBounds, Instr.sliceBound, asIntOf, h0, h1]
  · simp [Instr.sliceBounds, Instr.sliceBound, asIntOf, hh0, hhc, h0, h1, hcast]
end
end Go.Proofs.R

/- Each operation does in memory what the evaluator tells: slices of slices, literals, make. -/
namespace Go.Proofs.R
open Go
section
variable {P : Program} {c : Ctx}
variable {F : Fr} {S : CellSet} {β : Nat → Place} {O : Nat → Option AObj} {w : World} {a : Act} {σ : List (Nat × AV)} {o : Oper} {next : Act → World → Prop} {Q : Exit → Act → World → Prop}

theorem cut_eq {α : Type} (xs : List α) (l h : Nat) (hlh : l ≤ h) : xs = xs.take l ++ ((xs.take h).drop l ++ xs.drop h) := by
  conv => lhs; rw [← List.take_append_drop h xs]
  rw [← List.append_assoc]
  congr 1
  conv => lhs; rw [← List.take_append_drop l (xs.take h)]
  rw [List.take_take, Nat.min_eq_left hlh]

/-- a part of a read-only slice -/
theorem cut_rel {S : CellSet} {w : World} {t : Ty} {xs r : List t.V} {A : Option Addr} {cap : Nat} {l h : Int} (hcap : xs.length ≤ cap) (hx : xs = [] ∨ ∃ b o ds, A = some ⟨b, o, none⟩ ∧ RdsOf (Rd S w t) ds xs ∧ At S w b o ds)
    (hs : subL xs l h = some r) : 0 ≤ l ∧ l ≤ h ∧ h ≤ (xs.length : Int) ∧ Rd S w (.sl t) [.slice (if cap = l.toNat then A else A.map (·.add (l.toNat * t.size))) (h.toNat - l.toNat) (cap - l.toNat)] r := by
  unfold subL at hs
  split at hs
  · rename_i hb
    obtain ⟨h0, h1, h2⟩ := hb
    simp only [Option.some.injEq] at hs
    refine ⟨h0, h1, h2, ?_⟩
    have hlh : l.toNat ≤ h.toNat := by omega
    have hhl : h.toNat ≤ xs.length := by omega
    have hrl : r.length = h.toNat - l.toNat := by rw [← hs, List.length_drop, List.length_take, Nat.min_eq_left hhl]
    refine ⟨_, _, by rw [hrl], by rw [hrl]; omega, ?_⟩
    by_cases hr : r = []
    · exact .inl hr
    · right
      have hrp : 0 < r.length := List.length_pos_iff.2 hr
      rcases hx with rfl | ⟨b, o, ds, rfl, h3, h4⟩
      · simp at hhl; omega
      · have hne : ¬ cap = l.toNat := by omega
        rw [if_neg hne]
        have e1 := cut_eq xs l.toNat h.toNat hlh
        rw [hs] at e1
        rw [e1] at h3
        obtain ⟨c1, d1, rfl, h5, h6⟩ := RdsOf_split _ _ h3
        obtain ⟨c2, d2, rfl, h7, h8⟩ := RdsOf_split _ _ h6
        have hc1 : c1.length = l.toNat * t.size := by
          rw [RdsOf_len (fun _ _ => Rd_len t) h5, List.length_take, Nat.min_eq_left (by omega)]
        refine ⟨b, o + l.toNat * t.size, c2, by simp [add_at], h7, ?_⟩
        have := (At_append.1 (At_append.1 h4).2).1
        rw [hc1] at this; exact this
  · cases hs

theorem slice_ok (hE : EnvOk P c) (hc : Core F S β O w) (hs : Slots (F.rp S β O w) (lkp σ) a.tmps) {T : TypeId} {X : Operand} {lo hi : Option Operand} (ho : o.op = .slice T X lo hi none)
    {v : AV} (hv : gv c σ X 0 = some v) {l : Lf} (hl : one? v = some l) {lv hv' : Option AV} (hlo : optG c σ lo = some lv) (hhi : optG c σ hi = some hv')
    {lk : Nat → Option AObj} (hlk : ∀ n o, lk n = some o → O n = some o) {av : AV} {u : Upd} (h : sliceOp c lk T l lv hv' two = some (av, u))
    (hn : After F S β O (over u O) w av o a next) : o.wp P a w next Q := by
  have hopt : ∀ {x : Option Operand} {y : Option AV}, optG c σ x = some y → OptRel (F.rp S β O w) y (x.map a.eval) := by
    intro x y hxy
    cases x with
    | none => simp only [optG, Option.some.injEq] at hxy; subst hxy; trivial
    | some x =>
      simp only [optG, Option.bind_eq_some_iff, Option.some.injEq] at hxy
      obtain ⟨z, hz, rfl⟩ := hxy
      exact gv_rel hE hs hz
  have hx := fun hu => one_rel hl hu (gv_rel hE hs hv)
  unfold sliceOp at h
  split at h
  · rename_i s
    cases hb : strOk c T with
    | false => rw [hb] at h; cases h
    | true =>
      rw [hb] at h
      simp only [cond_true, Option.bind_eq_some_iff, bindD, two, Option.some.injEq, Prod.mk.injEq] at h
      obtain ⟨lw, hlw, hg, hhg, r, hr, rfl, rfl⟩ := h
      have hu := strOk_spec hE hb
      have hxs := hx (by simp)
      simp only [RelL, Rd, List.cons.injEq, and_true] at hxs
      unfold subS at hr
      split at hr
      · rename_i hbd
        obtain ⟨h0, h1, h2⟩ := hbd
        simp only [Option.some.injEq] at hr; subst hr
        have hrun := bounds_run (P := P) (isSlice := false) (len := s.size) (cap := s.size) (lo := lo.map a.eval) (hi := hi.map a.eval) (l := lw) (h := hg)
          ((bound_rel hlw (hopt hlo)).imp (fun h => ⟨h.2.1, h.2.2⟩) id) ((bound_rel hhg (hopt hhi)).imp (fun h => ⟨h.2.1, h.2.2⟩) id) h0 h1 h2 (Nat.le_refl _) w
        refine pure_ok hc (v := .string (s.extract lw.toNat hg.toNat)) ?_ (of_str _ _) hn
        simp [execOp, ho, hxs, Instr.sliceAt, Instr.slice, run_underlying hu, hrun]
      · cases hr
  · rename_i t xs
    cases hb : eltOk c T t with
    | false => rw [hb] at h; cases h
    | true =>
      rw [hb] at h
      simp only [cond_true, Option.bind_eq_some_iff, bindD, two, Option.some.injEq, Prod.mk.injEq] at h
      obtain ⟨lw, hlw, hg, hhg, r, hr, rfl, rfl⟩ := h
      obtain ⟨e, ee, hu, hee, hsz, hpos, _⟩ := eltOk_spec hE hb
      obtain ⟨A, cap, hxs, hcap, hx2⟩ := hx (by simp)
      simp only [List.cons.injEq, and_true] at hxs
      obtain ⟨h0, h1, h2, hrd⟩ := cut_rel hcap hx2 hr
      have hrun := bounds_run (P := P) (isSlice := true) (len := xs.length) (cap := cap) (lo := lo.map a.eval) (hi := hi.map a.eval) (l := lw) (h := hg)
        ((bound_rel hlw (hopt hlo)).imp (fun h => ⟨h.2.1, h.2.2⟩) id) ((bound_rel hhg (hopt hhi)).imp (fun h => ⟨h.2.1, h.2.2⟩) id) h0 h1 h2 hcap w
      refine pure_ok hc (av := .one (.v (.sl t) r)) ?_ (.inr hrd) hn
      simp [execOp, ho, hxs, Instr.sliceAt, Instr.slice, run_underlying hu, hrun, sizeOf_run (hE.te e ee hee), hsz]
  · rename_i n
    split at h
    · rename_i e0 t xs fz hln
      cases hb : eltOk c T t with
      | false => rw [hb] at h; cases h
      | true =>
        rw [hb] at h
        simp only [cond_true, Option.bind_eq_some_iff, bindD, two, Option.some.injEq, Prod.mk.injEq] at h
        obtain ⟨lw, hlw, hg, hhg, r, hr, rfl, rfl⟩ := h
        obtain ⟨e, ee, hu, hee, hsz, hpos, _⟩ := eltOk_spec hE hb
        have hO := hlk n _ hln
        have hxs := hx (by simp)
        unfold RelL at hxs; simp only [Fr.rp] at hxs; rw [hO] at hxs
        simp only [List.cons.injEq, and_true] at hxs
        obtain ⟨S', h3, h4⟩ := hc.freeze hO
        obtain ⟨hcap, h6⟩ := h3.froz_reads (upd_same _ _ _)
        have h7 : xs = [] ∨ ∃ b o ds, addrOf (β n).1 = some ⟨b, o, none⟩ ∧ RdsOf (Rd S' w t) ds xs ∧ At S' w b o ds := by
          refine h6.imp id ?_
          rintro ⟨b, o, cs, hb, h8, h9⟩
          exact ⟨b, o, cs, by rw [hb]; rfl, h8, h9⟩
        obtain ⟨h0, h1, h2, hrd⟩ := cut_rel hcap h7 hr
        have hrun := bounds_run (P := P) (isSlice := true) (len := xs.length) (cap := (β n).2) (lo := lo.map a.eval) (hi := hi.map a.eval) (l := lw) (h := hg)
          ((bound_rel hlw (hopt hlo)).imp (fun h => ⟨h.2.1, h.2.2⟩) id) ((bound_rel hhg (hopt hhi)).imp (fun h => ⟨h.2.1, h.2.2⟩) id) h0 h1 h2 hcap w
        refine wp_value (w' := w) (v := .slice (if (β n).2 = lw.toNat then addrOf (β n).1 else (addrOf (β n).1).map (·.add (lw.toNat * t.size))) (hg.toNat - lw.toNat) ((β n).2 - lw.toNat)) ?_ ?_
        · simp [execOp, ho, hxs, Instr.sliceAt, Instr.slice, run_underlying hu, hrun, sizeOf_run (hE.te e ee hee), hsz]
        · rw [over_cons, over_nil] at hn
          exact hn _ _ _ _ h3 h4 (.inr hrd)
    · cases h
  · cases h

/-! ### slice literals -/
def setAll {α : Type} : List α → List (Nat × α) → List α
  | xs, [] => xs
  | xs, (i, a) :: r => setAll (xs.set i a) r

theorem mkParts_get {α : Type} (z : α) (ps : List (Nat × α)) : ∀ (n k j : Nat), (mkParts z ps n k)[j]? = if j < n then some ((lkp ps (k + j)).getD z) else none
  | 0, k, j => by simp [mkParts]
  | n + 1, k, 0 => by simp [mkParts]
  | n + 1, k, j + 1 => by
    simp only [mkParts, List.getElem?_cons_succ, mkParts_get z ps n (k + 1) j]
    rw [show k + 1 + j = k + (j + 1) from by omega]
    by_cases h : j < n <;> simp [h]

theorem lkp_none {α : Type} : ∀ {ps : List (Nat × α)} {i : Nat}, memB (ps.map (·.1)) i = false → lkp ps i = none
  | [], _, _ => rfl
  | (j, a) :: ps, i, h => by
    simp only [List.map_cons, memB, Bool.or_eq_false_iff] at h
    rw [lkp_cons]
    have : i ≠ j := by rintro rfl; simp at h
    rw [if_neg this]; exact lkp_none h.2

theorem setAll_get {α : Type} : ∀ (qs : List (Nat × α)) (xs : List α) (j : Nat), nodupB (qs.map (·.1)) = true → (setAll xs qs)[j]? = match lkp qs j with | some a => if j < xs.length then some a else none | none => xs[j]?
  | [], xs, j, _ => rfl
  | (i, a) :: qs, xs, j, h => by
    simp only [List.map_cons, nodupB, Bool.and_eq_true, Bool.not_eq_true'] at h
    rw [setAll, setAll_get qs _ j h.2, lkp_cons]
    by_cases hj : j = i
    · subst hj
      rw [lkp_none h.1]
      simp [List.getElem?_set]
    · rw [if_neg hj]
      cases lkp qs j with
      | none => simp [List.getElem?_set, Ne.symm hj]
      | some b => simp

theorem mkParts_eq {α : Type} {z : α} {qs : List (Nat × α)} {n : Nat} (h : nodupB (qs.map (·.1)) = true) : mkParts z qs n 0 = setAll (List.replicate n z) qs := by
  apply List.ext_getElem?
  intro j
  rw [mkParts_get, setAll_get _ _ _ h, Nat.zero_add]
  cases lkp qs j with
  | none => simp [List.getElem?_replicate]
  | some a => simp

theorem zeroCells_add (z : Array Value) (m n : Nat) : (Builtin.zeroCells z (m + n)).toList = (Builtin.zeroCells z m).toList ++ (Builtin.zeroCells z n).toList := by
  simp only [Builtin.zeroCells, Array.toList_map, Array.toList_range]
  rw [Nat.add_mul, List.range_add, List.map_append]
  congr 1
  rw [List.map_map]
  apply List.map_congr_left
  intro i _
  simp only [Function.comp]
  rw [show (m * z.size + i) % z.size = i % z.size from by rw [Nat.mul_comm, Nat.mul_add_mod]]

theorem zeroCells_one_eq (z : Array Value) : (Builtin.zeroCells z 1).toList = z.toList := by
  apply List.ext_getElem?
  intro i
  simp only [Builtin.zeroCells, Array.toList_map, Array.toList_range, Nat.one_mul]
  by_cases h : i < z.size
  · simp [h, Nat.mod_eq_of_lt h]
  · simp [h]

theorem zeroCells_reads {S : CellSet} {w : World} {t : Ty} {z : Array Value} {x : t.V} (h : Rd S w t z.toList x) : ∀ n, RdsOf (Rd S w t) (Builtin.zeroCells z n).toList (List.replicate n x)
  | 0 => by simp [Builtin.zeroCells, RdsOf]
  | n + 1 => by
    rw [Nat.add_comm, zeroCells_add, ← List.replicate_append_replicate]
    exact RdsOf_append ⟨z.toList, [], by simp [zeroCells_one_eq], h, rfl⟩ (zeroCells_reads h n)

/-- typed parts, as they stand in memory -/
theorem fillTyped {p q : RP} {lk : Nat → Option AObj} (hop : Opens p q lk) {t : Ty} {n : Nat} : ∀ {as : List (Nat × AV)} {vs : List (Nat × Value)} {qs : List (Nat × t.V)} {arr : Array Value} {xs : List t.V},
    typedParts t lk n as = some qs → PartsR p as vs → RdsOf (Rd q.S q.w t) arr.toList xs → xs.length = n →
    ∃ arr' : Array Value, Instr.fill (fun i => some (i * t.size, t.size)) arr vs = some arr' ∧ RdsOf (Rd q.S q.w t) arr'.toList (setAll xs qs)
  | [], vs, qs, arr, xs, h, hv, hr, hn => by
    simp only [typedParts, Option.some.injEq] at h; subst h
    simp only [PartsR] at hv; subst hv
    exact ⟨arr, rfl, hr⟩
  | (i, av) :: as, _, qs, arr, xs, h, ⟨v, r, e, h1, h2⟩, hr, hn => by
    subst e
    simp only [typedParts] at h
    cases hb : Nat.blt i n with
    | false => rw [hb] at h; cases h
    | true =>
      rw [hb] at h
      simp only [cond_true, Option.bind_eq_some_iff] at h
      obtain ⟨as', has, ls, hls, ⟨x, rest⟩, hx, h⟩ := h
      have hin : i < n := by simpa using hb
      simp only at h
      split at h
      · simp only [Option.bind_eq_some_iff, Option.some.injEq] at h
        obtain ⟨qs', hqs, rfl⟩ := h
        have hrv := resolveL_rel hop _ hls (leafs_rel has h1)
        obtain ⟨cx, dx, ex, hrx, hdx⟩ := toTy_rel t hx hrv
        simp only [RelLs] at hdx; subst hdx
        rw [List.append_nil] at ex
        rw [← ex] at hrx
        have hget : xs[i]? = some (xs[i]'(by omega)) := List.getElem?_eq_getElem _
        obtain ⟨x1, d1, r1, e1, l1, hd, hput⟩ := RdsOf_put (fun _ _ => Rd_len t) hr hget hrx
        have hdl : d1.length = t.size := Rd_len t hd
        have hvl : v.cells.size = t.size := by simpa using Rd_len t hrx
        have hlen : arr.size = i * t.size + (t.size + r1.length) := by
          have := congrArg List.length e1
          simp only [Array.length_toList, List.length_append] at this
          omega
        obtain ⟨arr1, h5, h6, _⟩ := fill_step (fun i => some (i * t.size, t.size)) arr i v r (off := i * t.size) (size := t.size) rfl hvl (by omega)
        have e2 : arr1.toList = x1 ++ (v.cells.toList ++ r1) := by
          rw [h6, e1, List.take_left' l1, ← l1]
          conv => lhs; rhs; rhs; rw [← hdl, ← List.length_append, ← List.append_assoc x1 d1 r1, List.drop_left]
        obtain ⟨arr', h7, h8⟩ := fillTyped hop hqs h2 (arr := arr1) (xs := xs.set i x) (by rw [e2]; exact hput) (by simpa using hn)
        exact ⟨arr', by rw [h5]; exact h7, h8⟩
      · cases h
end
end Go.Proofs.R

/- Each operation does in memory what the evaluator tells: slice literals, make. -/
namespace Go.Proofs.R
open Go
section
variable {P : Program} {c : Ctx}
variable {F : Fr} {S : CellSet} {β : Nat → Place} {O : Nat → Option AObj} {w : World} {a : Act} {σ : List (Nat × AV)} {o : Oper} {next : Act → World → Prop} {Q : Exit → Act → World → Prop}

theorem zero_reads {t : Ty} {ee : TE} {z : Value} {x : t.V} {r : List Lf} (h : toTy t ee.z = some (x, r)) (hz : ∀ p : RP, RelLs p ee.z z.cells.toList) (hs : z.cells.size = ee.sz) (ht : ee.sz = t.size) (p : RP) : Rd p.S p.w t z.cells.toList x := by
  obtain ⟨cx, d, e, h1, _⟩ := toTy_rel t h (hz p)
  have h2 : cx.length = t.size := Rd_len t h1
  have h3 : z.cells.toList.length = t.size := by simp [hs, ht]
  rw [e, List.length_append, h2] at h3
  have : d = [] := List.eq_nil_of_length_eq_zero (by omega)
  subst this
  rw [e, List.append_nil]; exact h1

theorem fill_size (place : Nat → Option (Nat × Nat)) : ∀ (vs : List (Nat × Value)) (arr arr' : Array Value), Instr.fill place arr vs = some arr' → arr'.size = arr.size
  | [], arr, arr', h => by simp only [Instr.fill, Option.some.injEq] at h; subst h; rfl
  | (i, v) :: vs, arr, arr', h => by
    unfold Instr.fill at h
    split at h
    · cases h
    · rename_i off size hp
      split at h
      · cases h
      · rename_i hb
        simp only [Bool.or_eq_true, decide_eq_true_eq, not_or, Decidable.not_not, ne_eq] at hb
        have := fill_size place vs _ arr' h
        rw [this]
        have h2 := congrArg List.length (foldl_cells off v.cells.toList 0 arr (by simp; omega))
        rw [← Array.foldl_toList, Array.toList_zipIdx]
        simp only [List.length_append, List.length_take, List.length_drop, Array.length_toList, Nat.add_zero] at h2
        rw [h2]; omega

theorem fill_one (place : Nat → Option (Nat × Nat)) : ∀ (vs : List (Nat × Value)) (arr arr' : Array Value), Instr.fill place arr vs = some arr' → (∀ v ∈ arr.toList, v.oneCell' = true) → (∀ x ∈ vs, ∀ v ∈ x.2.cells.toList, v.oneCell' = true) → ∀ v ∈ arr'.toList, v.oneCell' = true
  | [], arr, arr', h, h1, _ => by simp only [Instr.fill, Option.some.injEq] at h; subst h; exact h1
  | (i, v) :: vs, arr, arr', h, h1, h2 => by
    unfold Instr.fill at h
    split at h
    · cases h
    · rename_i off size hp
      split at h
      · cases h
      · rename_i hb
        simp only [Bool.or_eq_true, decide_eq_true_eq, not_or, Decidable.not_not, ne_eq] at hb
        refine fill_one place vs _ arr' h ?_ (fun x hx => h2 x (List.mem_cons_of_mem _ hx))
        rw [← Array.foldl_toList, Array.toList_zipIdx]
        rw [foldl_cells off v.cells.toList 0 arr (by simp; omega)]
        intro u hu
        simp only [List.mem_append] at hu
        rcases hu with hu | hu | hu
        · exact h1 u (List.mem_of_mem_take hu)
        · exact h2 (i, v) List.mem_cons_self u hu
        · exact h1 u (List.mem_of_mem_drop hu)

theorem parts_one {p : RP} {lk : Nat → Option AObj} {t : Ty} {n : Nat} : ∀ {as : List (Nat × AV)} {vs : List (Nat × Value)} {qs : List (Nat × t.V)}, typedParts t lk n as = some qs → PartsR p as vs → ∀ x ∈ vs, ∀ v ∈ x.2.cells.toList, v.oneCell' = true
  | [], vs, _, _, hv => by simp only [PartsR] at hv; subst hv; simp
  | (i, av) :: as, _, qs, h, ⟨v, r, e, h1, h2⟩ => by
    subst e
    simp only [typedParts] at h
    cases hb : Nat.blt i n with
    | false => rw [hb] at h; cases h
    | true =>
      rw [hb] at h
      simp only [cond_true, Option.bind_eq_some_iff] at h
      obtain ⟨as', has, ls, hls, ⟨x, rest⟩, hx, h⟩ := h
      simp only at h
      split at h
      · simp only [Option.bind_eq_some_iff, Option.some.injEq] at h
        obtain ⟨qs', hqs, rfl⟩ := h
        intro y hy
        rcases List.mem_cons.1 hy with rfl | hy
        · exact RelLs_cells _ (leafs_rel has h1)
        · exact parts_one hqs h2 y hy
      · cases h

theorem rowLk_zero {z : Array Value} {n : Nat} : ((Array.range (n * z.size)).map fun i => z[i % z.size]!) = Builtin.zeroCells z n := rfl

theorem setAll_len {α : Type} : ∀ (qs : List (Nat × α)) (xs : List α), (setAll xs qs).length = xs.length
  | [], _ => rfl
  | (i, a) :: qs, xs => by rw [setAll, setAll_len qs]; simp

theorem buildSlice_ok (hE : EnvOk P c) (hc : Core F S β O w) (hs : Slots (F.rp S β O w) (lkp σ) a.tmps) {T : TypeId} {n : Nat} {ps : Array (Nat × Operand)} (ho : o.op = .buildSlice T n ps) {te : TE} (ht : lkp c.te T = some te)
    {e : TypeId} (hd : te.d = .slice e) {t : Ty} (hel : eltOk c T t = true) (hn2 : Nat.ble (n * t.size) 16777216 = true) {ee : TE} (hee : lkp c.te e = some ee) {z : t.V × List Lf} (hz : toTy t ee.z = some z)
    {ty : Nat → TypeId} {as : List (Nat × AV)} (has : partsOf c σ ty ps.toList = some as) {lk : Nat → Option AObj} (hlk : ∀ n o, lk n = some o → O n = some o) {qs : List (Nat × t.V)} (hqs : typedParts t (rowLk lk (as.flatMap fun p => p.2.names)) n as = some qs)
    (hnd : nodupB (qs.map (·.1)) = true) {d : Nat} (hnew : O d = none)
    (hn : After F S β O (over ((d, .row e t (mkParts z.1 qs n 0) false) :: freezes lk (as.flatMap fun p => p.2.names)) O) w (.one (.row d)) o a next) : o.wp P a w next Q := by
  obtain ⟨e', ee', hTu, hee', hsz, hpos, te', hte', hde'⟩ := eltOk_spec hE hel
  rw [ht] at hte'; cases hte'
  rw [hd] at hde'; cases hde'
  rw [hee] at hee'; cases hee'
  obtain ⟨i, zv, hi, hisz, hib, hiz, hzr, hz1, hzs⟩ := (hE.te e ee hee).info
  obtain ⟨S1, hc1, le1, _, _, hop⟩ := freezes_opens hc hlk (as.flatMap fun p => p.2.names)
  have hparts := partsOf_rel hE hs has
  have hzrd : Rd (F.rp S1 β (over (freezes lk (as.flatMap fun p => p.2.names)) O) w).S (F.rp S1 β (over (freezes lk (as.flatMap fun p => p.2.names)) O) w).w t zv.cells.toList z.1 :=
    zero_reads (r := z.2) (by rw [hz]) hzr hzs hsz _
  obtain ⟨arr, hfill, hrd⟩ := fillTyped hop hqs hparts (arr := Builtin.zeroCells zv.cells n) (zeroCells_reads hzrd n) (by simp)
  have hsize : arr.size = n * t.size := by
    rw [fill_size _ _ _ _ hfill, zeroCells_size, hzs, hsz]
  have hone := fill_one _ _ _ _ hfill (zeroCells_one hz1 n) (parts_one hqs hparts)
  have hnew1 : over (freezes lk (as.flatMap fun p => p.2.names)) O d = none := by
    cases h : over (freezes lk (as.flatMap fun p => p.2.names)) O d with
    | none => rfl
    | some o1 =>
      exfalso
      have : ∀ (ns : List Nat), over (freezes lk ns) O d = none := by
        intro ns
        induction ns with
        | nil => exact hnew
        | cons m ns ih =>
          unfold freezes
          split
          · rename_i e0 t0 xs0 hm
            rw [over_cons]
            have : d ≠ m := by rintro rfl; rw [hlk _ _ hm] at hnew; cases hnew
            rw [upd_ne _ _ _ _ this]; exact ih
          · exact ih
      rw [this] at h; cases h
  rw [mkParts_eq hnd] at hn
  obtain ⟨h1, h2⟩ := hc1.new hnew1 (.row e t (setAll (List.replicate n z.1) qs) false) (by intro _ _ _ hh; cases hh) (.cells arr e (0, 0)) n (by
    intro q hq hb hw
    refine .inr ⟨w.heap.size, 0, arr, arr.toList, [], by rw [hb], hw, by rw [hb, setAll_len]; simp, by simp, RdsOf_mono (fun _ _ => Rd_mono hq.S (fun b i v hs => hq.cells b i v (.inl hs)) t) hrd, by rw [hb]; simp [hsize], by simp, hone⟩)
  refine wp_value (v := .slice (some ⟨w.heap.size, 0, none⟩) n n) (w' := { w with heap := w.heap.push (.cells arr e (0, 0)) }) ?_ ?_
  · have hbig : ¬ (n * ee.sz > 16777216) := by rw [hsz]; have := Nat.le_of_ble_eq_true hn2; omega
    have hps : ((ps.map fun x => match x with | (i, x) => (i, a.eval x)).toList) = ps.toList.map fun x => (x.1, a.eval x.2) := by simp
    have hzc : (if n * t.size = 0 then (#[] : Array Value) else zv.cells) = zv.cells ∨ n = 0 := by
      by_cases h0 : n = 0
      · exact .inr h0
      · left; rw [if_neg]; exact Nat.mul_ne_zero h0 (by omega)
    simp only [execOp, ho, Instr.buildSlice, Sem.run_bind, run_underlying hTu, Result.andThen_ok, sizeOf_run (hE.te e ee hee), Sem.run_ite]
    rw [if_neg (by simpa using hbig), hsz]
    by_cases h0 : n * t.size = 0
    · have hn0 : n = 0 := by
        rcases Nat.mul_eq_zero.1 h0 with h | h
        · exact h
        · omega
      subst hn0
      rw [if_pos h0]
      simp only [Sem.run_pure, Result.andThen_ok]
      rw [hps]
      have e1 : ((Array.range (0 * t.size)).map fun x => (#[] : Array Value)[x % (#[] : Array Value).size]!) = Builtin.zeroCells zv.cells 0 := by simp [Builtin.zeroCells]
      rw [e1, hfill]
      simp [newRow]
    · rw [if_neg h0]
      simp only [Sem.run_bind, zeroValue, typeInfo, run_program, Result.andThen_ok, hi, Sem.run_pure, hiz]
      rw [hps]
      have e1 : ((Array.range (n * t.size)).map fun x => zv.cells[x % zv.cells.size]!) = Builtin.zeroCells zv.cells n := by
        rw [← hsz, ← hzs]; rfl
      rw [e1, hfill]
      simp [newRow]
  · rw [over_cons] at hn
    refine hn _ _ _ _ h1 (le_trans_same le1 h2 ?_) (.inr ?_)
    · intro m o1 o2 ho1 _ _
      simp only [Fr.rp] at ho1 ⊢
      exact upd_ne _ _ _ _ (by rintro rfl; rw [hnew] at ho1; cases ho1)
    · unfold RelL; simp only [Fr.rp, upd_same]
      simp [setAll_len, addrOf]

theorem wrap_id {n : Int} (h0 : 0 ≤ n) (h1 : n ≤ 4294967296) : IntKind.i64.wrap n = n := by
  have := IntKind.wrap_i64 n
  rw [this]; omega

theorem makeSlice_ok (hE : EnvOk P c) (hc : Core F S β O w) (hs : Slots (F.rp S β O w) (lkp σ) a.tmps) {T : TypeId} {X Y : Operand} (ho : o.op = .makeSlice T X Y) {te : TE} (ht : lkp c.te T = some te)
    {e : TypeId} (hd : te.d = .slice e) {t : Ty} (hel : eltOk c T t = true) {ee : TE} (hee : lkp c.te e = some ee) {z : t.V × List Lf} (hz : toTy t ee.z = some z)
    {x y : AV} (hx : gv c σ X 0 = some x) (hy : gv c σ Y 0 = some y) {n m : Int} (hxn : intOf? x = some n) (hym : intOf? y = some m) {len : Nat} (hlen : mkLen n m = some len) {d : Nat} (hnew : O d = none)
    (hn : After F S β O (over [(d, .row e t (List.replicate len z.1) false)] O) w (.one (.row d)) o a next) : o.wp P a w next Q := by
  obtain ⟨e', ee', hTu, hee', hsz, hpos, te', hte', hde'⟩ := eltOk_spec hE hel
  rw [ht] at hte'; cases hte'
  rw [hd] at hde'; cases hde'
  rw [hee] at hee'; cases hee'
  obtain ⟨i, zv, hi, hisz, hib, hiz, hzr, hz1, hzs⟩ := (hE.te e ee hee).info
  obtain ⟨k1, hX⟩ := int_rel hxn (gv_rel hE hs hx)
  obtain ⟨k2, hY⟩ := int_rel hym (gv_rel hE hs hy)
  unfold mkLen at hlen
  split at hlen
  · rename_i hb
    obtain ⟨h0, h1, h2⟩ := hb
    simp only [Option.some.injEq] at hlen
    have h2' : m ≤ 4294967296 := by simpa [mostLen] using h2
    have hzrd : ∀ p : RP, Rd p.S p.w t zv.cells.toList z.1 := fun p => zero_reads (r := z.2) (by rw [hz]) hzr hzs hsz p
    have hml : m.toNat = len + (m.toNat - len) := by omega
    obtain ⟨h3, h4⟩ := hc.new hnew (.row e t (List.replicate len z.1) false) (by intro _ _ _ hh; cases hh) (.cells (Builtin.zeroCells zv.cells m.toNat) e (0, 0)) m.toNat (by
      intro q hq hb hw
      refine .inr ⟨w.heap.size, 0, _, (Builtin.zeroCells zv.cells len).toList, (Builtin.zeroCells zv.cells (m.toNat - len)).toList, by rw [hb], hw, by rw [hb]; simp; omega, ?_, zeroCells_reads (hzrd q) len, ?_, by simp, zeroCells_one hz1 _⟩
      · conv => lhs; rw [hml, zeroCells_add]
        simp
      · rw [hb]; simp [zeroCells_size, hzs, hsz])
    refine wp_value (v := .slice (some ⟨w.heap.size, 0, none⟩) len m.toNat) (w' := { w with heap := w.heap.push (.cells (Builtin.zeroCells zv.cells m.toNat) e (0, 0)) }) ?_ ?_
    · have w1 := wrap_id h0 (by omega : n ≤ 4294967296)
      have w2 := wrap_id (by omega : 0 ≤ m) h2'
      have hbig : ¬ ((i.bytes : Int) * m > 2 ^ 48) := by
        have : (i.bytes : Int) * m ≤ 8192 * 4294967296 := Int.mul_le_mul (by omega) h2' (by omega) (by omega)
        omega
      have hc1 : (decide (m < 0) || decide ((i.bytes : Int) * m > 2 ^ 48) || decide (n < 0) || decide (n > m)) = false := by
        simp only [Bool.or_eq_false_iff, decide_eq_false_iff_not]
        exact ⟨⟨⟨by omega, hbig⟩, by omega⟩, by omega⟩
      simp only [execOp, ho, hX, hY, Instr.makeSlice, Sem.run_bind, run_underlying hTu, Result.andThen_ok, asInt, asIntOf, Sem.run_pure, typeInfo, run_program, hi, w1, w2, Sem.run_ite]
      rw [if_neg (by simpa using hc1)]
      simp only [run_askRoom, Result.andThen_ok, sizeOf_run (hE.te e ee hee)]
      by_cases h5 : m.toNat * ee.sz = 0
      · have h6 : m.toNat = 0 := by
          rcases Nat.mul_eq_zero.1 h5 with h | h
          · exact h
          · omega
        rw [if_pos h5]
        have e1 : ((Array.range (m.toNat * ee.sz)).map fun x => (#[] : Array Value)[x % (#[] : Array Value).size]!) = Builtin.zeroCells zv.cells m.toNat := by rw [h6]; simp [Builtin.zeroCells]
        rw [e1]
        simp [newRow, hlen]
      · rw [if_neg h5]
        have hzv : (zeroValue e).run P w = .ok zv w := by simp [zeroValue, typeInfo, hi, hiz]
        rw [hzv]
        simp only [Result.andThen_ok]
        have e1 : ((Array.range (m.toNat * ee.sz)).map fun x => zv.cells[x % zv.cells.size]!) = Builtin.zeroCells zv.cells m.toNat := by rw [← hzs]; rfl
        rw [e1]
        simp [newRow, hlen]
    · rw [over_cons, over_nil] at hn
      refine hn _ _ _ _ h3 h4 (.inr ?_)
      unfold RelL; simp only [Fr.rp, upd_same]
      simp [addrOf]
  · cases hlen
end
end Go.Proofs.R

/- Calls: what is known of a callee, and what its caller makes of it. -/
namespace Go.Proofs.R
open Go

/-- the results' cells; the names of the rows that the callee made -/
def RetL (p : RP) (sh : Bool) : (rs : List RS) → HV (rsTys rs) → List Value → List Nat → Prop
  | [], _, cs, ns => cs = [] ∧ ns = []
  | .ro t :: rs, x, cs, ns => ∃ c d, cs = c ++ d ∧ Rd p.S p.w t c x.1 ∧ RetL p sh rs x.2 d ns
  | .fresh e t :: rs, x, cs, ns => (∃ n ns' d fz, ns = n :: ns' ∧ p.O n = some (.row e t x.1 fz) ∧ (sh = true → fz = false) ∧ cs = .slice (addrOf (p.β n).1) (List.length x.1) (p.β n).2 :: d ∧ RetL p sh rs x.2 d ns') ∨
      (∃ d, x.1 = ([] : List t.V) ∧ cs = .slice none 0 0 :: d ∧ RetL p sh rs x.2 d ns)

/-- the results' values, out of their cells -/
def ResV : RetD → List Value → List Value → Prop
  | [], cs, vs => cs = [] ∧ vs = []
  | (ag, rs) :: d, cs, vs => ∃ c r v vr, cs = c ++ r ∧ vs = v :: vr ∧ (if ag then v = .agg c.toArray else c = [v]) ∧ c.length = (rs.map fun r => r.ty.size).sum ∧ ResV d r vr

def oneOrTuple : List Value → Value
  | [v] => v
  | vs => .tuple vs.toArray

def noBase : Nat → Place := fun _ => (none, 0)

/-- What a call does: it returns these results, and leaves alone what was there. -/
def CallOk (P : Program) (c : Ctx) (f : FuncId) (args : List AV) (r : HV (rsTys ((c.ret f).flatMap (·.2)))) : Prop :=
  (∀ (w : World) (vs : Array Value), (callFunc f vs).run P w = .ok (.enter f vs) w) ∧
  ∀ (w : World) (Sf : CellSet) (vs : Array Value), (∀ b i, Sf b i → b < w.heap.size) →
    RelAVs (Fr.rp ⟨w, fun _ => False, Sf⟩ Sf noBase (fun _ => none) w) args vs.toList →
    Calls P f vs w fun e w' => ∃ S' β' O' cs ws ns, e = .returned (oneOrTuple ws) ∧ Core ⟨w, fun _ => False, Sf⟩ S' β' O' w' ∧
      RetL (Fr.rp ⟨w, fun _ => False, Sf⟩ S' β' O' w') (((c.ret f).flatMap (·.2)).any RS.shares) ((c.ret f).flatMap (·.2)) r cs ns ∧ ns.Nodup ∧ ResV (c.ret f) cs ws

structure Snd (P : Program) (c : Ctx) (I : Interp c) : Prop where
  call : ∀ f args r, I.call f args = some r → CallOk P c f args r

section
variable {P : Program} {c : Ctx}
variable {F : Fr} {S : CellSet} {β : Nat → Place} {O : Nat → Option AObj} {w : World} {a : Act} {σ : List (Nat × AV)} {o : Oper} {next : Act → World → Prop} {Q : Exit → Act → World → Prop}

theorem RdsOf_any {α : Type} {R R' : List Value → α → Prop} (h : ∀ c x, R c x → R' c x) {cs : List Value} {xs : List α} (hr : RdsOf R cs xs) : RdsOf R' cs xs := RdsOf_mono h hr

theorem Rd_noSl {S S' : CellSet} {w w' : World} : ∀ (t : Ty) {cs : List Value} {x : t.V}, t.hasSl = false → Rd S w t cs x → Rd S' w' t cs x
  | .unit, _, _, _, h => h
  | .int _, _, _, _, h => h
  | .bool, _, _, _, h => h
  | .str, _, _, _, h => h
  | .pair a b, _, _, hs, ⟨c, d, e, h1, h2⟩ => by
    simp only [Ty.hasSl, Bool.or_eq_false_iff] at hs
    exact ⟨c, d, e, Rd_noSl a hs.1 h1, Rd_noSl b hs.2 h2⟩
  | .sl t, _, _, hs, _ => by simp [Ty.hasSl] at hs
  | .arr n t, _, _, hs, ⟨hl, h⟩ => by
    simp only [Ty.hasSl] at hs
    exact ⟨hl, RdsOf_mono (fun _ _ => Rd_noSl t hs) h⟩

theorem unpack_names (d : Nat) : ∀ (rs : List RS) (x : HV (rsTys rs)) (j k : Nat), k < j → lkp (unpackL d rs x j).2 (d * 8 + k) = none
  | [], _, _, _, _ => rfl
  | .ro t :: rs, x, j, k, h => unpack_names d rs x.2 j k h
  | .fresh e t :: rs, x, j, k, h => by
    show lkp ((d * 8 + j, AObj.row e t x.1 false) :: (unpackL d rs x.2 (j + 1)).2) (d * 8 + k) = none
    rw [lkp_cons, if_neg (by omega)]
    exact unpack_names d rs x.2 (j + 1) k (by omega)

theorem lkp_mem {α : Type} : ∀ {l : List (Nat × α)} {n : Nat} {x : α}, lkp l n = some x → (n, x) ∈ l
  | (m, y) :: l, n, x, h => by
    rw [lkp_cons] at h
    split at h
    · rename_i e; subst e; cases h; exact List.mem_cons_self
    · exact List.mem_cons_of_mem _ (lkp_mem h)

theorem unpack_mem (d : Nat) : ∀ (rs : List RS) (x : HV (rsTys rs)) (j n : Nat) (o : AObj), (n, o) ∈ (unpackL d rs x j).2 → ∃ k, n = d * 8 + j + k ∧ k < freshNum rs
  | [], _, _, _, _, h => by cases h
  | .ro t :: rs, x, j, n, o, h => unpack_mem d rs x.2 j n o h
  | .fresh e t :: rs, x, j, n, o, h => by
    rcases List.mem_cons.1 h with h | h
    · cases h; exact ⟨0, rfl, Nat.succ_pos _⟩
    · obtain ⟨k, h1, h2⟩ := unpack_mem d rs x.2 (j + 1) n o h
      exact ⟨k + 1, by omega, Nat.succ_lt_succ h2⟩

/-- each block is an old one, or one of the callee's rows -/
def Blocks (n0 : Nat) (β' : Nat → Place) (O' : Nat → Option AObj) (ns : List Nat) (β : Nat → Place) (O : Nat → Option AObj) : Prop :=
  ∀ n o b off, O n = some o → o.live = true → (β n).1 = some (b, off) → b < n0 ∨ ∃ k o0 of0, k ∈ ns ∧ O' k = some o0 ∧ o0.live = true ∧ (β' k).1 = some (b, of0)

/-- the objects of a callee, taken over by its caller, one by one -/
theorem import_ret {Fc : Fr} {S' : CellSet} {β' : Nat → Place} {O' : Nat → Option AObj} {w' : World} (hcc : Core Fc S' β' O' w') (hX : ∀ k, ¬ Fc.X k) (hw0 : Fc.w0 = w) (hsz : F.w0.heap.size ≤ w.heap.size) (sh : Bool) {S2 : CellSet}
    (hS2 : (sh = true ∧ ∀ b i, S2 b i ↔ S' b i) ∨ (sh = false ∧ ∀ b i, S2 b i → b < w.heap.size)) {d : Nat} {β : Nat → Place} {O : Nat → Option AObj} (hc : Core F S2 β O w') (hbl : Blocks w.heap.size β' O' [] β O) :
    ∀ (rs : List RS) (x : HV (rsTys rs)) (cs : List Value) (ns : List Nat) (j : Nat), RetL (Fc.rp S' β' O' w') sh rs x cs ns → ns.Nodup → (sh = false → rs.any RS.shares = false) →
      (∀ i, (lkp (unpackL d rs x j).2 i).isSome = true → O i = none) →
      ∃ β2, Core F S2 β2 (over (unpackL d rs x j).2 O) w' ∧ (F.rp S2 β O w').le (F.rp S2 β2 (over (unpackL d rs x j).2 O) w') ∧ (∀ n, O n ≠ none → β2 n = β n) ∧
        Blocks w.heap.size β' O' ns β2 (over (unpackL d rs x j).2 O) ∧ RelLs (F.rp S2 β2 (over (unpackL d rs x j).2 O) w') (unpackL d rs x j).1 cs
  | [], x, cs, ns, j, hr, _, _, _ => by
    obtain ⟨rfl, rfl⟩ := hr
    exact ⟨β, hc, le_refl _, fun _ _ => rfl, hbl, rfl⟩
  | .ro t :: rs, x, cs, ns, j, hr, hnd, hsh, hfree => by
    obtain ⟨c1, d1, rfl, h1, h2⟩ := hr
    obtain ⟨β2, h3, h4, h5, h5b, h6⟩ := import_ret hcc hX hw0 hsz sh hS2 hc hbl rs x.2 d1 ns j h2 hnd (fun h => by have := hsh h; simp only [List.any_cons, Bool.or_eq_false_iff] at this; exact this.2) hfree
    refine ⟨β2, h3, h4, h5, h5b, c1, d1, rfl, ?_, h6⟩
    rcases hS2 with ⟨hs, hS⟩ | ⟨hs, _⟩
    · exact Rd_mono (fun b i h => (hS b i).2 h) (fun _ _ _ _ h => h) t h1
    · have := hsh hs
      simp only [List.any_cons, Bool.or_eq_false_iff, RS.shares] at this
      exact Rd_noSl t this.1 h1
  | .fresh e t :: rs, x, cs, ns, j, hr, hnd, hsh, hfree => by
    have hsh2 : sh = false → rs.any RS.shares = false := fun h => by have := hsh h; simp only [List.any_cons, Bool.or_eq_false_iff] at this; exact this.2
    have hupd : (unpackL d (.fresh e t :: rs) x j).2 = (d * 8 + j, .row e t x.1 false) :: (unpackL d rs x.2 (j + 1)).2 := rfl
    have hls : (unpackL d (.fresh e t :: rs) x j).1 = .row (d * 8 + j) :: (unpackL d rs x.2 (j + 1)).1 := rfl
    have hd : O (d * 8 + j) = none := hfree _ (by rw [hupd, lkp_cons]; simp)
    have hfree2 : ∀ i, (lkp (unpackL d rs x.2 (j + 1)).2 i).isSome = true → O i = none := by
      intro i hi
      refine hfree i ?_
      rw [hupd, lkp_cons]; split
      · rfl
      · exact hi
    have hrest : ∀ (β1 : Nat → Place), over (unpackL d rs x.2 (j + 1)).2 O (d * 8 + j) = none := by
      intro _
      unfold over
      rw [unpack_names d rs x.2 (j + 1) j (by omega)]
      exact hd
    have hO2 : ∀ n, O n ≠ none → n ≠ d * 8 + j := by rintro n hn rfl; exact hn hd
    rw [hupd, hls, over_cons]
    rcases hr with ⟨n, ns', d1, fz, rfl, hO', hfz, rfl, h2⟩ | ⟨d1, hx0, rfl, h2⟩
    · -- a row
      obtain ⟨hnn, hnd'⟩ := List.nodup_cons.1 hnd
      obtain ⟨β2, h3, h4, h5, h5b, h6⟩ := import_ret hcc hX hw0 hsz sh hS2 hc hbl rs x.2 d1 ns' (j + 1) h2 hnd' hsh2 hfree2
      have hdn := hrest β2
      have hobj := hcc.obj n _ hO'
      have hrow : ∀ q : RP, q.w = w' → (∀ b i, S2 b i → q.S b i) → q.β (d * 8 + j) = β' n → ObjR q (d * 8 + j) (.row e t x.1 false) := by
        intro q hqw hqS hqb
        rcases hobj with ⟨h1, h3⟩ | ⟨b, o0, arr, cs0, rest, h1, h3, h4, h5, h6, h7, h8, h9⟩
        · exact .inl ⟨by rw [hqb]; exact h1, h3⟩
        · refine .inr ⟨b, o0, arr, cs0, rest, by rw [hqb]; exact h1, by rw [hqw]; exact h3, by rw [hqb]; exact h4, h5, ?_, by rw [hqb]; exact h7, h8, h9⟩
          rcases hS2 with ⟨hs, hS⟩ | ⟨hs, _⟩
          · exact RdsOf_mono (fun _ _ => Rd_mono (fun b i h => hqS b i ((hS b i).2 h)) (fun b i v _ h => by rw [hqw]; exact h) t) h6
          · have := hsh hs
            simp only [List.any_cons, Bool.or_eq_false_iff, RS.shares] at this
            exact RdsOf_mono (fun _ _ => Rd_noSl t this.1) h6
      have hblk : ∀ b off, (β' n).1 = some (b, off) → w.heap.size ≤ b ∧ b < w'.heap.size := by
        intro b off hb
        refine ⟨?_, ObjR_block hobj rfl hb⟩
        rcases hcc.far n _ b off hO' rfl hb with h | h
        · rw [hw0] at h; exact h
        · exact (hX b h).elim
      have hnoS : ∀ b off i, (β' n).1 = some (b, off) → ¬ S2 b i := by
        intro b off i hb hs
        rcases hS2 with ⟨hs2, hS⟩ | ⟨hs2, hS⟩
        · obtain ⟨e1, t1, xs1, h1, _⟩ := hcc.still b i n _ off ((hS b i).1 hs) hO' rfl hb
          have := hfz hs2
          subst this; cases h1
        · have := hS b i hs; have := (hblk b off hb).1; omega
      obtain ⟨h7, h8⟩ : Core F S2 (upd β2 (d * 8 + j) (β' n)) (upd (over (unpackL d rs x.2 (j + 1)).2 O) (d * 8 + j) (some (.row e t x.1 false))) w' ∧
          (F.rp S2 β2 (over (unpackL d rs x.2 (j + 1)).2 O) w').le (F.rp S2 (upd β2 (d * 8 + j) (β' n)) (upd (over (unpackL d rs x.2 (j + 1)).2 O) (d * 8 + j) (some (.row e t x.1 false))) w') := by
        refine h3.change (fun k => k = d * 8 + j) rfl rfl rfl (Nat.le_refl _) (fun _ _ _ => rfl) (fun _ _ h => h) (fun _ _ _ _ h => h) ?_ ?_ ?_ ?_ ?_ (fun _ _ h => .inl h) h3.dom ?_ ?_
        · intro k hk; exact ⟨upd_ne _ _ _ _ hk, upd_ne _ _ _ _ hk⟩
        · rintro k ok hk rfl; rw [hdn] at hk; cases hk
        · rintro le k ok hk rfl
          rw [upd_same] at hk; cases hk
          exact hrow _ rfl (fun _ _ h => h) (by simp [Fr.rp, upd_same])
        · rintro k ok b off rfl _ _ hb
          rw [upd_same] at hb
          have := (hblk b off hb).1
          exact .inl (by omega)
        · rintro k k' ok ok' b x1 y1 rfl hk hk' hlk hlk' hb hb'
          by_cases e1 : k' = d * 8 + j
          · exact e1.symm
          · exfalso
            rw [upd_same] at hb
            rw [upd_ne _ _ _ _ e1] at hk' hb'
            rcases h5b k' ok' b y1 hk' hlk' hb' with h | ⟨k2, o2, of2, h6, h7, h8, h9⟩
            · have := (hblk b x1 hb).1; omega
            · have := hcc.apart n k2 _ o2 b x1 of2 hO' h7 rfl h8 hb h9
              exact hnn (this ▸ h6)
        · rintro b i k ok off hs hk hlk hb
          by_cases e1 : k = d * 8 + j
          · subst e1
            rw [upd_same] at hb
            exact (hnoS b off i hb hs).elim
          · rw [upd_ne _ _ _ _ e1] at hk hb
            exact h3.still b i k ok off hs hk hlk hb
        · rintro k e1 t1 xs1 b off i rfl hk
          rw [upd_same] at hk; cases hk
      refine ⟨_, h7, le_trans_same h4 h8 ?_, ?_, ?_, [_], d1, rfl, ?_, RelLs_le h8 _ h6⟩
      · intro m o1 o2 ho1 _ _
        simp only [Fr.rp] at ho1 ⊢
        have hm : O m ≠ none := by rw [ho1]; simp
        rw [upd_ne _ _ _ _ (hO2 m hm)]; exact h5 m hm
      · intro m hm
        rw [upd_ne _ _ _ _ (hO2 m hm)]; exact h5 m hm
      · intro m om b off hm hlm hb
        by_cases e1 : m = d * 8 + j
        · subst e1
          rw [upd_same] at hb
          exact .inr ⟨n, _, off, List.mem_cons_self, hO', rfl, hb⟩
        · rw [upd_ne _ _ _ _ e1] at hm hb
          rcases h5b m om b off hm hlm hb with h | ⟨k2, o2, of2, h9, h10, h11, h12⟩
          · exact .inl h
          · exact .inr ⟨k2, o2, of2, List.mem_cons_of_mem _ h9, h10, h11, h12⟩
      · unfold RelL; simp only [Fr.rp, upd_same]
    · -- nil
      obtain ⟨β2, h3, h4, h5, h5b, h6⟩ := import_ret hcc hX hw0 hsz sh hS2 hc hbl rs x.2 d1 ns (j + 1) h2 hnd hsh2 hfree2
      obtain ⟨h7, h8⟩ := h3.newNil (e := e) (t := t) (hrest β2)
      rw [over_cons, over_nil] at h7 h8
      rw [hx0]
      refine ⟨_, h7, le_trans_same h4 h8 ?_, ?_, ?_, [_], d1, rfl, ?_, RelLs_le h8 _ h6⟩
      · intro m o1 o2 ho1 _ _
        simp only [Fr.rp] at ho1 ⊢
        have hm : O m ≠ none := by rw [ho1]; simp
        rw [upd_ne _ _ _ _ (hO2 m hm)]; exact h5 m hm
      · intro m hm
        rw [upd_ne _ _ _ _ (hO2 m hm)]; exact h5 m hm
      · intro m om b off hm hlm hb
        by_cases e1 : m = d * 8 + j
        · subst e1; rw [upd_same] at hb; cases hb
        · rw [upd_ne _ _ _ _ e1] at hm hb
          exact h5b m om b off hm hlm hb
      · unfold RelL; simp only [Fr.rp, upd_same]; simp [addrOf]

theorem unpack_sizes (d : Nat) : ∀ (rs : List RS) (x : HV (rsTys rs)) (j : Nat), (unpackL d rs x j).1.map Lf.size = rs.map fun r => r.ty.size
  | [], _, _ => rfl
  | .ro t :: rs, x, j => by show t.size :: _ = t.size :: _; rw [unpack_sizes d rs x.2 j]
  | .fresh e t :: rs, x, j => by show 1 :: _ = 1 :: _; rw [unpack_sizes d rs x.2 (j + 1)]

theorem group_rel {p : RP} : ∀ (d : RetD) (ls : List Lf) (cs ws : List Value), ls.map Lf.size = (d.flatMap (·.2)).map (fun r => r.ty.size) → RelLs p ls cs → ResV d cs ws → (group d ls).all (fun p => p.1 || Nat.beq p.2.length 1) = true → RelVls p (group d ls) ws
  | [], ls, cs, ws, _, _, h, _ => h.2
  | (ag, rs) :: d, ls, cs, ws, hsz, hr, ⟨c1, r1, v, vr, e1, e2, hv, hl, h⟩, hall => by
    subst e2
    simp only [List.flatMap_cons, List.map_append] at hsz
    have hlen : ls.length = rs.length + (d.flatMap (·.2)).length := by
      have := congrArg List.length hsz
      simpa using this
    have e3 : ls = ls.take rs.length ++ ls.drop rs.length := (List.take_append_drop _ _).symm
    have hs1 : (ls.take rs.length).map Lf.size = rs.map fun r => r.ty.size := by
      rw [List.map_take, hsz]
      exact List.take_left' (by simp)
    have hs2 : (ls.drop rs.length).map Lf.size = (d.flatMap (·.2)).map fun r => r.ty.size := by
      rw [List.map_drop, hsz]
      exact List.drop_left' (by simp)
    rw [e3] at hr
    obtain ⟨c2, d2, e4, h2, h3⟩ := RelLs_split _ _ hr
    have hc2 : c2.length = c1.length := by
      rw [RelLs_len _ h2, hl]; unfold sizes; rw [hs1]
    obtain ⟨rfl, rfl⟩ := List.append_inj (e4.symm.trans e1) hc2
    simp only [group, List.all_cons, Bool.and_eq_true] at hall
    refine ⟨v, vr, rfl, ?_, group_rel d _ _ vr hs2 h3 h hall.2⟩
    cases ag with
    | true =>
      simp only [if_true] at hv
      exact ⟨_, hv, by simpa using h2⟩
    | false =>
      simp only [Bool.false_eq_true, if_false] at hv
      have h4 := hall.1
      simp only [Bool.false_or] at h4
      have h5 := Nat.eq_of_beq_eq_true h4
      match hm : ls.take rs.length, h5 with
      | [l], _ =>
        rw [hm] at h2
        obtain ⟨c3, c4, e5, h6, h7⟩ := h2
        simp only [RelLs] at h7; subst h7
        simp only [List.append_nil] at e5; subst e5
        rw [hv] at h6
        exact ⟨l, rfl, .inr h6⟩

theorem groupAV_rel {p : RP} {d : RetD} {ls : List Lf} {cs ws : List Value} (hsz : ls.map Lf.size = (d.flatMap (·.2)).map (fun r => r.ty.size)) (hr : RelLs p ls cs) (hv : ResV d cs ws) {av : AV} (h : groupAV d ls = some av) : RelAV p av (oneOrTuple ws) := by
  unfold groupAV at h
  split at h
  · rename_i q hq
    have hall : (group d ls).all (fun p => p.1 || Nat.beq p.2.length 1) = true := by
      rw [hq]; unfold avOf at h
      split at h
      · rfl
      · rfl
      · cases h
    have := group_rel d ls cs ws hsz hr hv hall
    rw [hq] at this
    obtain ⟨v, r, rfl, h1, h2⟩ := this
    simp only [RelVls] at h2; subst h2
    show RelAV p av v
    unfold avOf at h
    split at h
    · cases h; exact h1
    · cases h
      obtain ⟨l, e, h3⟩ := h1
      simp only [List.cons.injEq, and_true] at e; subst e; exact h3
    · cases h
  · rename_i ps hps
    cases hall : (group d ls).all (fun p => p.1 || Nat.beq p.2.length 1) with
    | false => rw [hall] at h; cases h
    | true =>
      rw [hall] at h; simp only [cond_true, Option.some.injEq] at h; subst h
      have := group_rel d ls cs ws hsz hr hv hall
      have hne : ∀ v, ws ≠ [v] := by
        rintro v rfl
        match hg : group d ls with
        | [] => rw [hg] at this; simp [RelVls] at this
        | [q] => exact hps q hg
        | q :: q2 :: r =>
          rw [hg] at this
          obtain ⟨v1, r1, e1, _, v2, r2, e2, _⟩ := this
          subst e2; simp at e1
      have : oneOrTuple ws = .tuple ws.toArray := by
        unfold oneOrTuple
        split
        · rename_i v; exact (hne v rfl).elim
        · rfl
      rw [this]
      exact ⟨_, rfl, by simpa using ‹RelVls p (group d ls) ws›⟩

theorem RelAVs_append {p : RP} : ∀ {as bs : List AV} {us vs : List Value}, RelAVs p as us → RelAVs p bs vs → RelAVs p (as ++ bs) (us ++ vs)
  | [], bs, us, vs, h, h' => by simp only [RelAVs] at h; subst h; simpa using h'
  | x :: as, bs, _, vs, ⟨v, r, e, h1, h2⟩, h' => by
    subst e
    exact ⟨v, r ++ vs, rfl, h1, RelAVs_append h2 h'⟩

theorem caps_rel {p : RP} : ∀ {ls : List Lf} {vs : List Value}, RelLs p ls vs → ls.all (fun l => Nat.beq l.size 1) = true → RelAVs p (ls.map AV.one) vs
  | [], vs, h, _ => h
  | l :: ls, _, ⟨c1, d1, e, h1, h2⟩, hs => by
    subst e
    simp only [List.all_cons, Bool.and_eq_true] at hs
    have h3 := RelL_len l h1
    rw [Nat.eq_of_beq_eq_true hs.1] at h3
    match c1, h3 with
    | [v], _ => exact ⟨v, d1, rfl, .inr h1, caps_rel h2 hs.2⟩

theorem resolveAVs_rel {p q : RP} {lk : Nat → Option AObj} (h : Opens p q lk) : ∀ {as bs : List AV} {vs : List Value}, resolveAVs lk as = some bs → RelAVs p as vs → RelAVs q bs vs
  | [], bs, vs, e, hr => by simp only [resolveAVs, Option.some.injEq] at e; subst e; exact hr
  | x :: as, bs, _, e, ⟨v, r, e1, h1, h2⟩ => by
    subst e1
    simp only [resolveAVs, Option.bind_eq_some_iff, Option.some.injEq] at e
    obtain ⟨b, h3, bs', h4, rfl⟩ := e
    exact ⟨v, r, rfl, resolveAV_rel h h3 h1, resolveAVs_rel h h4 h2⟩

/-- a call, as its caller sees it -/
theorem callOp_ok {I : Interp c} (hI : Snd P c I) (hc : Core F S β O w) {lk : Nat → Option AObj} {ns : List Nat} (hlk : ∀ n o, lk n = some o → O n = some o) (hns : ∀ n o, lk n = some o → n ∈ ns)
    {d : Nat} {g : FuncId} {args : List AV} {av : AV} {u : Upd} (h : callOp c I lk d g args ns two = some (av, u)) {vs : Array Value} (hr : RelAVs (F.rp S β O w) args vs.toList)
    (hfree : ∀ n o', (n, o') ∈ u → n / 8 = d → n % 8 < 5 → O n = none) :
    (callFunc g vs).run P w = .ok (.enter g vs) w ∧ Calls P g vs w fun e w' => ∃ v S' β', e = .returned v ∧ Core F S' β' (over u O) w' ∧ (F.rp S β O w).le (F.rp S' β' (over u O) w') ∧ RelAV (F.rp S' β' (over u O) w') av v := by
  unfold callOp at h
  cases hfn : Nat.blt (freshNum ((c.ret g).flatMap (·.2))) 6 with
  | false => rw [hfn] at h; cases h
  | true =>
  rw [hfn] at h
  simp only [cond_true, Option.bind_eq_some_iff, bindD, two, Option.some.injEq, Prod.mk.injEq] at h
  obtain ⟨as, has, r, hr1, v, hv, rfl, hu⟩ := h
  have hfr : ∀ i, (lkp (unpackL d ((c.ret g).flatMap (·.2)) r 0).2 i).isSome = true → O i = none := by
    intro i hi
    cases hl : lkp (unpackL d ((c.ret g).flatMap (·.2)) r 0).2 i with
    | none => rw [hl] at hi; cases hi
    | some o' =>
      have hm := lkp_mem hl
      obtain ⟨j, h1, h2⟩ := unpack_mem d _ _ _ _ _ hm
      have : freshNum _ + 1 ≤ 6 := Nat.le_of_ble_eq_true hfn
      refine hfree i o' ?_ (by omega) (by omega)
      rw [← hu]; exact List.mem_append_left _ hm
  obtain ⟨henter, hcall⟩ := hI.call g as r hr1
  refine ⟨henter w vs, ?_⟩
  have hrowblk : ∀ n o b off, O n = some o → o.live = true → (β n).1 = some (b, off) → b < w.heap.size := fun n o b off h1 h2 h3 => ObjR_block (hc.obj n o h1) h2 h3
  have hbox : ∀ (q : RP), q.w = w → (∀ b i, b < w.heap.size → q.N b i) → ∀ n T ls, lk n = some (.box T ls) → O n = some (.box T ls) ∧ ∃ b ds, (β n).1 = some (b, 0) ∧ RelLs (F.rp S β O w) ls ds ∧ At (fun b i => q.N b i ∨ q.S b i) q.w b 0 ds := by
    intro q hqw hqN n T ls hl
    have hO := hlk n _ hl
    obtain ⟨b, arr, h1, h2, h3⟩ := hc.obj n _ hO
    refine ⟨hO, b, arr.toList, h1, h3, ?_⟩
    rw [hqw]
    simp only [Fr.rp] at h2
    exact At_of_block h2 (o := 0) (rest := []) (by simp) (fun j _ => .inl (hqN _ _ (Array.getElem?_eq_some_iff.1 h2).1))
  cases hsh : ((c.ret g).flatMap (·.2)).any RS.shares with
  | true =>
    rw [hsh] at hu; simp only [cond_true] at hu
    obtain ⟨S1, hc1, le1, hrow1, _⟩ := hc.freezes hlk ns
    have hop : Opens (F.rp S β O w) (Fr.rp ⟨w, fun _ => False, S1⟩ S1 noBase (fun _ => none) w) lk := by
      refine ⟨le1.S, fun _ _ _ _ h => h, ?_, ?_, hbox _ rfl (fun b i hb => ⟨hb, id⟩)⟩
      · intro b i hn; exact .inl ⟨Nat.lt_of_lt_of_le hn.1 hc.size, id⟩
      · intro n e t xs fz hl
        have hO := hlk n _ hl
        obtain ⟨fz', h5, _, h6⟩ := hrow1 n _ _ _ _ hO
        have := h6 (hns n _ hl) (by rw [hl]; simp); subst this
        obtain ⟨h7, h8⟩ := hc1.froz_reads h5
        exact ⟨hO, h7, h8⟩
    refine (hcall w S1 vs hc1.dom (resolveAVs_rel hop has hr)).mono ?_
    rintro e w' ⟨S', β', O', cs, ws, ns', rfl, hcc, hret, hnd, hres⟩
    have hstep : Core F S' β (over (freezes lk ns) O) w' ∧ (F.rp S1 β (over (freezes lk ns) O) w).le (F.rp S' β (over (freezes lk ns) O) w') := by
      have hkeep : ∀ k, k < w.heap.size → w'.heap[k]? = w.heap[k]? := fun k hk => hcc.keep k hk id
      refine hc1.change (fun _ => False) hcc.os hcc.tape hcc.output hcc.size (fun k hk _ => hkeep k hk) hcc.sf ?_ (fun _ _ => ⟨rfl, rfl⟩) (fun _ _ _ h => h.elim) (fun _ _ _ _ h => h.elim) (fun _ _ _ _ h => h.elim) (fun _ _ _ _ _ _ _ h => h.elim) ?_ hcc.dom ?_ (fun _ _ _ _ _ _ _ h => h.elim)
      · intro b i v hs hv; rw [← hv]; exact cellAt_block (hkeep b (hc1.dom b i hs))
      · intro b i hs
        rcases hcc.fresh b i hs with h | h | h
        · exact .inl h
        · exact .inr (.inr (.inl (Nat.le_trans hc.size h)))
        · exact h.elim
      · intro b i n o1 off hs hO hl hb
        have hlt : b < w.heap.size := ObjR_block (hc1.obj n o1 hO) hl hb
        rcases hcc.fresh b i hs with h | h | h
        · exact hc1.still b i n o1 off h hO hl hb
        · exact absurd hlt (by have : w.heap.size ≤ b := h; omega)
        · exact h.elim
    obtain ⟨hc2, le2⟩ := hstep
    obtain ⟨β2, h3, h4, h5, _, h6⟩ := import_ret (F := F) (w := w) (Fc := ⟨w, fun _ => False, S1⟩) hcc (fun _ => id) rfl hc.size true (S2 := S') (.inl ⟨rfl, fun _ _ => Iff.rfl⟩) (d := d) hc2
      (fun n o b off h1 h2 h3 => .inl (ObjR_block (hc1.obj n o h1) h2 h3)) ((c.ret g).flatMap (·.2)) r cs ns' 0 (by rw [← hsh]; exact hret) hnd (fun h => by cases h) (by
        intro i hi
        have := hfr i hi
        unfold over
        have hnone : lkp (freezes lk ns) i = none := by
          cases hl : lkp (freezes lk ns) i with
          | none => rfl
          | some o =>
            exfalso
            have : ∀ ns, (lkp (freezes lk ns) i).isSome = true → O i ≠ none := by
              intro ns
              induction ns with
              | nil => intro h; cases h
              | cons m ns ih =>
                unfold freezes
                split
                · rename_i e0 t0 xs0 hm
                  rw [lkp_cons]
                  split
                  · rename_i e1; subst e1; intro _; rw [hlk _ _ hm]; simp
                  · exact ih
                · exact ih
            exact this ns (by rw [hl]; rfl) ‹O i = none›
        rw [hnone]; exact this)
    rw [← hu, over_append]
    refine ⟨_, S', β2, rfl, h3, ?_, groupAV_rel (unpack_sizes _ _ _ _) h6 hres hv⟩
    refine le_trans_same (le_trans_same le1 le2 (fun _ _ _ _ _ _ => rfl)) h4 ?_
    intro n o1 o2 ho1 _ _
    simp only [Fr.rp] at ho1 ⊢
    refine h5 n ?_
    intro hno
    obtain ⟨o3, ho3, _⟩ := le1.obj n o1 ho1
    simp only [Fr.rp] at ho3
    rw [hno] at ho3; cases ho3
  | false =>
    rw [hsh] at hu; simp only [cond_false, List.append_nil] at hu
    have hop : Opens (F.rp S β O w) (Fr.rp ⟨w, fun _ => False, fun b _ => b < w.heap.size⟩ (fun b _ => b < w.heap.size) noBase (fun _ => none) w) lk := by
      refine ⟨hc.dom, fun _ _ _ _ h => h, ?_, ?_, hbox _ rfl (fun b i hb => ⟨hb, id⟩)⟩
      · intro b i hn; exact .inl ⟨Nat.lt_of_lt_of_le hn.1 hc.size, id⟩
      · intro n e t xs fz hl
        have hO := hlk n _ hl
        refine ⟨hO, ?_⟩
        rcases hc.obj n _ hO with ⟨h1, rfl⟩ | ⟨b, o0, arr, cs, rest, h1, h2, h3, h4, h5, _⟩
        · exact ⟨Nat.zero_le _, .inl rfl⟩
        · refine ⟨h3, .inr ⟨b, o0, cs, h1, ?_, ?_⟩⟩
          · exact RdsOf_mono (fun _ _ => Rd_mono (fun b i hs => hc.dom b i hs) (fun _ _ _ _ h => h) t) h5
          · simp only [Fr.rp] at h2
            exact At_of_block h2 h4 (fun j _ => (Array.getElem?_eq_some_iff.1 h2).1)
    refine (hcall w (fun b _ => b < w.heap.size) vs (fun b i h => h) (resolveAVs_rel hop has hr)).mono ?_
    rintro e w' ⟨S', β', O', cs, ws, ns', rfl, hcc, hret, hnd, hres⟩
    have hkeep : ∀ k, k < w.heap.size → w'.heap[k]? = w.heap[k]? := fun k hk => hcc.keep k hk id
    have hstep : Core F S β O w' ∧ (F.rp S β O w).le (F.rp S β O w') := by
      refine hc.change (fun _ => False) hcc.os hcc.tape hcc.output hcc.size (fun k hk _ => hkeep k hk) (fun _ _ h => h) ?_ (fun _ _ => ⟨rfl, rfl⟩) (fun _ _ _ h => h.elim) (fun _ _ _ _ h => h.elim) (fun _ _ _ _ h => h.elim) (fun _ _ _ _ _ _ _ h => h.elim) (fun _ _ h => .inl h) ?_ hc.still (fun _ _ _ _ _ _ _ h => h.elim)
      · intro b i v hs hv; rw [← hv]; exact cellAt_block (hkeep b (hc.dom b i hs))
      · intro b i hs; exact Nat.lt_of_lt_of_le (hc.dom b i hs) hcc.size
    obtain ⟨hc2, le2⟩ := hstep
    obtain ⟨β2, h3, h4, h5, _, h6⟩ := import_ret (F := F) (w := w) (Fc := ⟨w, fun _ => False, fun b _ => b < w.heap.size⟩) hcc (fun _ => id) rfl hc.size false (S2 := S) (.inr ⟨rfl, hc.dom⟩) (d := d) hc2
      (fun n o b off h1 h2 h3 => .inl (hrowblk n o b off h1 h2 h3)) ((c.ret g).flatMap (·.2)) r cs ns' 0 (by rw [← hsh]; exact hret) hnd (fun _ => hsh) (by
        intro i hi
        exact hfr i hi)
    rw [← hu]
    refine ⟨_, S, β2, rfl, h3, ?_, groupAV_rel (unpack_sizes _ _ _ _) h6 hres hv⟩
    refine le_trans_same le2 h4 ?_
    intro n o1 o2 ho1 _ _
    simp only [Fr.rp] at ho1 ⊢
    exact h5 n (by rw [ho1]; simp)
end
end Go.Proofs.R

/- Ranges over strings. -/
namespace Go.Proofs.R
open Go

section
variable {P : Program} {c : Ctx}
variable {F : Fr} {S : CellSet} {β : Nat → Place} {O : Nat → Option AObj} {w : World} {a : Act} {σ : List (Nat × AV)} {o : Oper} {next : Act → World → Prop} {Q : Exit → Act → World → Prop}

theorem range_ok (hE : EnvOk P c) (hc : Core F S β O w) (hs : Slots (F.rp S β O w) (lkp σ) a.tmps) {T : TypeId} {X : Operand} (ho : o.op = .range T X) (hT : strOk c T = true) {s : ByteArray} (hx : gv c σ X 0 = some (.one (.v .str s)))
    {n : Nat} (hnew : O n = none) (hn : After F S β O (over [(n, .iter s 0)] O) w (.one (.ref n 0)) o a next) : o.wp P a w next Q := by
  have hv := rel_str (gv_rel hE hs hx)
  have hu := strOk_spec hE hT
  obtain ⟨h1, h2⟩ := hc.new hnew (.iter s 0) (by intro e t xs hh; cases hh) (.stringIter s 0) 0 (by
    intro q hq hb hw
    exact ⟨w.heap.size, by rw [hb], hw⟩)
  refine wp_value (v := .pointer (some ⟨w.heap.size, 0, none⟩)) (w' := { w with heap := w.heap.push (.stringIter s 0) }) ?_ ?_
  · simp [execOp, ho, Instr.range, run_underlying hu, hv]
  · rw [over_cons, over_nil] at hn
    refine hn _ _ _ _ h1 h2 (.inr ?_)
    unfold RelL
    simp only [Fr.rp, upd_same]
    exact ⟨w.heap.size, rfl, rfl⟩

/-- an object that is no row changes to one that is none -/
theorem Core.writeObj (h : Core F S β O w) {n : Nat} {o o' : AObj} (hn : O n = some o) (hl : o.live = true) (hto : o.to o') (hl' : o'.live = true)
    {b off : Nat} (hb : (β n).1 = some (b, off)) (hfz : ∀ e t xs, o ≠ .row e t xs true) (hfz' : ∀ e t xs, o' ≠ .row e t xs true) (blk : Obj)
    (hobj : ∀ q : RP, (F.rp S β O w).le q → q.β n = β n → q.w = { w with heap := w.heap.setIfInBounds b blk } → ObjR q n o') :
    Core F S β (upd O n (some o')) { w with heap := w.heap.setIfInBounds b blk } ∧ (F.rp S β O w).le (F.rp S β (upd O n (some o')) { w with heap := w.heap.setIfInBounds b blk }) := by
  have hno : ∀ i, ¬ S b i := by
    intro i hs
    obtain ⟨e, t, xs, rfl, _⟩ := h.still b i n o off hs hn hl hb
    exact hfz _ _ _ rfl
  have hother : ∀ k, k ≠ b → ({ w with heap := w.heap.setIfInBounds b blk } : World).heap[k]? = w.heap[k]? := fun k hk => Array.getElem?_setIfInBounds_ne (Ne.symm hk)
  refine h.change (fun m => m = n) rfl rfl rfl (by simp) ?_ (fun _ _ h => h) ?_ ?_ ?_ ?_ ?_ ?_ (fun _ _ h => .inl h) ?_ ?_ ?_
  · intro k _ hk
    refine hother k ?_
    rintro rfl
    exact hk n o off hn hl rfl hb
  · intro b' i v hs hc
    rw [← hc]
    refine cellAt_block (hother b' ?_)
    rintro rfl; exact hno i hs
  · intro m hm; exact ⟨upd_ne _ _ _ _ hm, rfl⟩
  · rintro m o1 hO rfl
    rw [hn] at hO; cases hO
    exact ⟨o', upd_same _ _ _, hto, fun _ => rfl⟩
  · rintro le m o1 hO rfl
    rw [upd_same] at hO; cases hO
    exact hobj _ le rfl rfl
  · rintro m o1 b' off' rfl hO _ hb'
    exact h.far m o b' off' hn hl hb'
  · rintro m m' o1 o2 b1 x y rfl h1 h2 hl1 hl2 hb1 hb2
    by_cases e : m' = m
    · exact e.symm
    · rw [upd_ne _ _ _ _ e] at h2
      exact h.apart m m' o o2 b1 x y hn h2 hl hl2 hb1 hb2
  · intro b' i hs; have := h.dom b' i hs; simpa using this
  · intro b' i m o1 off' hs hO hl1 hb1
    by_cases e : m = n
    · subst e
      rw [hb] at hb1; simp only [Option.some.injEq, Prod.mk.injEq] at hb1; obtain ⟨rfl, rfl⟩ := hb1
      exact (hno i hs).elim
    · rw [upd_ne _ _ _ _ e] at hO
      exact h.still b' i m o1 off' hs hO hl1 hb1
  · rintro m e t xs b1 off1 i rfl hO
    rw [upd_same] at hO; cases hO
    exact (hfz' _ _ _ rfl).elim

theorem next_ok (hE : EnvOk P c) (hc : Core F S β O w) (hs : Slots (F.rp S β O w) (lkp σ) a.tmps) {X : Operand} (ho : o.op = .next X true) {n : Nat} (hx : gv c σ X 0 = some (.one (.ref n 0))) {s : ByteArray} {pos : Nat} (hO : O n = some (.iter s pos))
    (hn1 : pos < s.size → After F S β O (over [(n, .iter s (nextAt s pos))] O) w (.tup [(false, [.v .bool true]), (false, [.v (.int .i64) (pos : Int)]), (false, [.v (.int .i32) (runeAt s pos)])]) o a next)
    (hn2 : ¬ pos < s.size → After F S β O (over [] O) w (.tup [(false, [.v .bool false])]) o a next) : o.wp P a w next Q := by
  have hv := gv_rel hE hs hx
  rcases hv with hv | hv
  · cases hv
  unfold RelL at hv
  rw [show (F.rp S β O w).O n = some (.iter s pos) from hO] at hv
  obtain ⟨b, hb, hv⟩ := hv
  simp only [List.cons.injEq, and_true] at hv
  obtain ⟨b', hb', hw⟩ := hc.obj n _ hO
  rw [hb] at hb'; simp only [Option.some.injEq, Prod.mk.injEq, and_true] at hb'; subst hb'
  simp only [Fr.rp] at hb hw
  have hget : (getObj b).run P w = .ok (.stringIter s pos) w := by simp [getObj, Sem.run, hw]
  have hset : ∀ ob, (setObj b ob).run P w = .ok () { w with heap := w.heap.setIfInBounds b ob } := by intro ob; simp [setObj, Sem.run, hw]
  by_cases hp : pos < s.size
  · obtain ⟨h1, h2⟩ := hc.writeObj hO rfl (o' := .iter s (nextAt s pos)) (.inr ⟨_, _, rfl⟩) rfl hb (by intro e t xs hh; cases hh) (by intro e t xs hh; cases hh) (.stringIter s (nextAt s pos)) (by
      intro q _ hqb hqw
      refine ⟨b, by rw [hqb]; exact hb, ?_⟩
      rw [hqw]
      exact Array.getElem?_setIfInBounds_self_of_lt (Array.getElem?_eq_some_iff.1 hw).1)
    have hh := hn1 hp
    rw [over_cons, over_nil] at hh
    refine wp_value (v := .tuple #[.bool true, .int .i64 pos, .int .i32 (runeAt s pos)]) ?_ (hh _ _ _ _ h1 h2 ⟨_, rfl, ?_⟩)
    · simp [execOp, ho, Instr.next, hv, hget, hp, hset, nextAt, runeAt, goInt]
    · exact ⟨_, _, rfl, ⟨_, rfl, .inr rfl⟩, _, _, rfl, ⟨_, rfl, .inr rfl⟩, _, _, rfl, ⟨_, rfl, .inr rfl⟩, rfl⟩
  · refine pure_ok hc (v := .tuple #[.bool false]) ?_ ?_ (hn2 hp)
    case refine_2 => exact ⟨_, rfl, _, _, rfl, ⟨_, rfl, .inr rfl⟩, rfl⟩
    simp [execOp, ho, Instr.next, hv, hget, hp]
end
end Go.Proofs.R

/- Functions of the library that work on an object of the caller's: a strings.Builder. -/
namespace Go.Proofs.R
open Go
section
variable {P : Program} {c : Ctx}
variable {F : Fr} {S : CellSet} {β : Nat → Place} {O : Nat → Option AObj} {w : World}

theorem appendOp_lk {ρ : Type} {lk lk1 : Nat → Option AObj} {d : Nat} {T : TypeId} {s x : Lf} {K : AV → Upd → Option ρ} (h1 : ∀ m, s = .row m → lk1 m = lk m) (h2 : ∀ m, x = .row m → lk1 m = lk m) :
    appendOp c lk1 d T s x K = appendOp c lk d T s x K := by
  have hr : rowsOf lk1 x = rowsOf lk x := by
    cases x with
    | v t x => cases t <;> rfl
    | row m => simp only [rowsOf]; rw [h2 _ rfl]
    | _ => rfl
  unfold appendOp
  rw [hr]
  cases s <;> first | rfl | (simp only; rw [h1 _ rfl])

/-- what append may change -/
theorem appendOp_upd {lk : Nat → Option AObj} {d : Nat} {T : TypeId} {s x : Lf} {av : AV} {u : Upd} (h : appendOp c lk d T s x two = some (av, u)) :
    (∃ e t zs, u = [(d * 8, .row e t zs false)] ∧ (∃ e' t', s = .nil e' t') ∧ av = .one (.row (d * 8))) ∨
    ∃ m e e2 t xs fz zs, s = .row m ∧ lk m = some (.row e2 t xs fz) ∧ u = [(m, .dead), (d * 8, .row e t zs fz)] ∧ av = .one (.row (d * 8)) := by
  unfold appendOp at h
  simp only [Option.bind_eq_some_iff] at h
  obtain ⟨te, _, h⟩ := h
  split at h
  · simp only [Option.bind_eq_some_iff] at h
    obtain ⟨ys, _, h⟩ := h
    cases hel : eltOk c T ys.1 with
    | false => rw [hel] at h; cases h
    | true =>
      rw [hel] at h; simp only [cond_true] at h
      split at h
      · rename_i e1 t1
        cases hq : Nat.beq _ e1 with
        | false => rw [hq] at h; cases h
        | true =>
          rw [hq] at h
          simp only [cond_true, bindD, Option.bind_eq_some_iff, two, Option.some.injEq, Prod.mk.injEq] at h
          obtain ⟨_, _, _, _, rfl, rfl⟩ := h
          exact .inl ⟨_, _, _, rfl, ⟨_, _, rfl⟩, rfl⟩
      · split at h
        · rename_i e1 t1 _ _ hl
          cases hq : Nat.beq _ e1 with
          | false => rw [hq] at h; cases h
          | true =>
            rw [hq] at h
            simp only [cond_true, bindD, Option.bind_eq_some_iff, two, Option.some.injEq, Prod.mk.injEq] at h
            obtain ⟨_, _, _, _, rfl, rfl⟩ := h
            exact .inr ⟨_, _, _, _, _, _, _, rfl, hl, rfl, rfl⟩
        · cases h
      · cases h
  · cases h

/-- a builder's two cells -/
theorem box_two (hc : Core F S β O w) {n : Nat} {T : TypeId} {a l : Lf} (hn : O n = some (.box T [a, l])) (ha : a.size = 1) (hl : l.size = 1) :
    ∃ b pa v, (β n).1 = some (b, 0) ∧ w.heap[b]? = some (.cells #[pa, v] T (0, 0)) ∧ RelL (F.rp S β O w) a [pa] ∧ RelL (F.rp S β O w) l [v] := by
  obtain ⟨b, arr, h1, h2, c1, d1, e, h3, c2, d2, e2, h4, h5⟩ := hc.obj n _ hn
  simp only [RelLs] at h5; subst h5
  have l1 := RelL_len a h3
  have l2 := RelL_len l h4
  rw [ha] at l1; rw [hl] at l2
  match c1, l1, c2, l2 with
  | [pa], _, [v], _ =>
    subst e2
    have : arr = #[pa, v] := by
      apply Array.ext'; rw [e]; rfl
    subst this
    exact ⟨b, pa, v, h1, h2, h3, h4⟩

theorem bapp_core (hE : EnvOk P c) (hc : Core F S β O w) {lk : Nat → Option AObj} (hlk : ∀ n o, lk n = some o → O n = some o) {d : Nat} (hd : O (d * 8) = none) {T U X : TypeId} (hX : (slOk c X || strOk c X) = true) {n : Nat} {x : Lf} {vx : Value}
    (hx : ∀ q : RP, (F.rp S β O w).le q → RelL q x [vx]) (hxn : ∀ m, x = .row m → lk m ≠ none ∧ m ≠ n) {r av : AV} {u : Upd} (h : bappOp c lk d T U n x r two = some (av, u)) :
    av = r ∧ ∃ b pa v v' uu w2 S' β', (β n).1 = some (b, 0) ∧ w.heap[b]? = some (.cells #[pa, v] T (0, 0)) ∧ (pa = .pointer none ∨ pa = .pointer (some ⟨b, 0, none⟩)) ∧
      (Builtin.append_ #[U, X] U #[v, vx]).run P (w.setRow b #[.pointer (some ⟨b, 0, none⟩), v]) = .ok v' w2 ∧ (∃ A n m, v' = .slice A n m) ∧ w2.heap[b]? = some (.cells #[.pointer (some ⟨b, 0, none⟩), uu] T (0, 0)) ∧
      Core F S' β' (over u O) (w2.setRow b #[.pointer (some ⟨b, 0, none⟩), v']) ∧ (F.rp S β O w).le (F.rp S' β' (over u O) (w2.setRow b #[.pointer (some ⟨b, 0, none⟩), v'])) := by
  unfold bappOp at h
  split at h
  · rename_i T' a l hn
    cases hb : (Nat.beq T T' && selfOk a n) with
    | false => rw [hb] at h; cases h
    | true =>
      rw [hb] at h; simp only [cond_true] at h
      simp only [Bool.and_eq_true] at hb
      obtain ⟨hT, hself⟩ := hb
      have hT := Nat.eq_of_beq_eq_true hT
      subst hT
      rw [appendOp_nat] at h
      simp only [Option.bind_eq_some_iff] at h
      obtain ⟨⟨av0, u0⟩, happ, h⟩ := h
      have hO := hlk n _ hn
      have hup := appendOp_upd happ
      have hasz : a.size = 1 := by
        unfold selfOk at hself
        split at hself
        · rfl
        · rfl
        · cases hself
      have hlsz : l.size = 1 := by
        rcases hup with ⟨_, _, _, _, ⟨_, _, rfl⟩, _⟩ | ⟨_, _, _, _, _, _, _, rfl, _⟩ <;> rfl
      obtain ⟨b, pa, v, hb1, hb2, hpa, hv⟩ := box_two hc hO hasz hlsz
      have hpa' : pa = .pointer none ∨ pa = .pointer (some ⟨b, 0, none⟩) := by
        unfold selfOk at hself
        split at hself
        · simp only [RelL, List.cons.injEq, and_true] at hpa; exact .inl hpa
        · rename_i m
          have := Nat.eq_of_beq_eq_true hself
          subst this
          unfold RelL at hpa; simp only [Fr.rp] at hpa; rw [hO] at hpa; simp only at hpa
          obtain ⟨b', h3, h4⟩ := hpa
          rw [hb1] at h3; simp only [Option.some.injEq, Prod.mk.injEq, and_true] at h3; subst h3
          simp only [List.cons.injEq, and_true] at h4
          exact .inr h4
        · cases hself
      have hselfrel : RelL (F.rp S β O w) (.ref n 0) [.pointer (some ⟨b, 0, none⟩)] := by
        unfold RelL; simp only [Fr.rp]; rw [hO]; exact ⟨b, hb1, rfl⟩
      -- the mark
      obtain ⟨hc1, le1⟩ := hc.write hO rfl (o' := .box T [.ref n 0, l]) (.inr ⟨_, _, rfl⟩) rfl hb1 (by intro e t xs hh; cases hh) (by intro e t xs hh; cases hh) #[.pointer (some ⟨b, 0, none⟩), v] (by
        intro q hle hbq hwq
        refine ⟨b, #[.pointer (some ⟨b, 0, none⟩), v], by rw [hbq]; exact hb1, by rw [hwq]; exact setRow_heap w b _ _ T (0, 0) hb2, [_], [v], rfl, RelL_le hle _ hselfrel, [v], [], rfl, RelL_le hle _ hv, rfl⟩)
      -- the append
      have hmn : ∀ m, l = .row m → m ≠ n := by
        rintro m rfl rfl
        rcases hup with ⟨_, _, _, _, ⟨_, _, he⟩, _⟩ | ⟨_, _, _, _, _, _, _, he, hm, _⟩
        · cases he
        · cases he; rw [hn] at hm; cases hm
      have hdn : d * 8 ≠ n := by rintro rfl; rw [hO] at hd; cases hd
      have hlk1 : ∀ m o, (fun m => if m = n then none else lk m) m = some o → upd O n (some (.box T [.ref n 0, l])) m = some o := by
        intro m o hm
        simp only at hm
        split at hm
        · cases hm
        · rename_i hne; rw [upd_ne _ _ _ _ hne]; exact hlk m o hm
      have happ1 : appendOp c (fun m => if m = n then none else lk m) d U l x two = some (av0, u0) := by
        rw [← happ]
        refine appendOp_lk ?_ ?_
        · intro m hm; show (if m = n then none else lk m) = _; rw [if_neg (hmn m hm)]
        · intro m hm; show (if m = n then none else lk m) = _; rw [if_neg (hxn m hm).2]
      obtain ⟨v', w2, S', β', hrun, hc2, le2, hav⟩ := appendOp_run hE hc1 hlk1 (by rw [upd_ne _ _ _ _ hdn]; exact hd) hX (RelL_le le1 _ hv) (hx _ le1) happ1 U
      -- the new slice
      have hu0n : ∀ O' : Nat → Option AObj, over u0 O' n = O' n := by
        intro O'
        rcases hup with ⟨_, _, _, rfl, _, _⟩ | ⟨m, _, _, _, _, _, _, hl, _, rfl, _⟩
        · rw [over_cons, over_nil, upd_ne _ _ _ _ (Ne.symm hdn)]
        · rw [over_cons, over_cons, over_nil, upd_ne _ _ _ _ (Ne.symm (hmn m hl)), upd_ne _ _ _ _ (Ne.symm hdn)]
      have hO2 : over u0 (upd O n (some (.box T [.ref n 0, l]))) n = some (.box T [.ref n 0, l]) := by rw [hu0n, upd_same]
      have hy : ∃ y, av0 = .one y ∧ y ≠ .undef := by
        rcases hup with ⟨_, _, _, _, _, rfl⟩ | ⟨_, _, _, _, _, _, _, _, _, _, rfl⟩ <;> exact ⟨_, rfl, by simp⟩
      obtain ⟨y, rfl, hyu⟩ := hy
      have hyrel := hav.resolve_left hyu
      have hslice : ∃ A n m, v' = .slice A n m := by
        unfold RelL at hyrel
        rcases hup with ⟨_, _, _, rfl, _, hy⟩ | ⟨m, _, _, _, _, _, _, hl, _, rfl, hy⟩
        · cases hy
          simp only [Fr.rp] at hyrel
          rw [over_cons, over_nil, upd_same] at hyrel
          simp only [List.cons.injEq, and_true] at hyrel
          exact ⟨_, _, _, hyrel⟩
        · cases hy
          have hmd : d * 8 ≠ m := by
            rintro rfl
            rw [hlk _ _ ‹lk (d * 8) = _›] at hd; cases hd
          simp only [Fr.rp] at hyrel
          rw [over_cons, over_cons, over_nil, upd_ne _ _ _ _ hmd, upd_same] at hyrel
          simp only [List.cons.injEq, and_true] at hyrel
          exact ⟨_, _, _, hyrel⟩
      obtain ⟨b2, pa2, v2, g1, g2, g3, _⟩ := box_two hc2 hO2 rfl hlsz
      have hbb : b2 = b := by
        obtain ⟨o', ho', _, hβ⟩ := le2.obj n _ (show (F.rp S β (upd O n (some (.box T [.ref n 0, l]))) (w.setRow b #[.pointer (some ⟨b, 0, none⟩), v])).O n = _ from upd_same _ _ _)
        simp only [Fr.rp] at ho' hβ
        rw [hO2] at ho'; cases ho'
        rw [hβ rfl, hb1] at g1; simpa using g1.symm
      subst hbb
      have hpa2 : pa2 = .pointer (some ⟨b2, 0, none⟩) := by
        unfold RelL at g3; simp only [Fr.rp] at g3; rw [hO2] at g3; simp only at g3
        obtain ⟨b', h3, h4⟩ := g3
        rw [g1] at h3; simp only [Option.some.injEq, Prod.mk.injEq, and_true] at h3; subst h3
        simpa using h4
      subst hpa2
      have hself2 : RelL (F.rp S' β' (over u0 (upd O n (some (.box T [.ref n 0, l])))) w2) (.ref n 0) [.pointer (some ⟨b2, 0, none⟩)] := g3
      obtain ⟨hc3, le3⟩ := hc2.write hO2 rfl (o' := .box T [.ref n 0, y]) (.inr ⟨_, _, rfl⟩) rfl g1 (by intro e t xs hh; cases hh) (by intro e t xs hh; cases hh) #[.pointer (some ⟨b2, 0, none⟩), v'] (by
        intro q hle hbq hwq
        refine ⟨b2, #[.pointer (some ⟨b2, 0, none⟩), v'], by rw [hbq]; exact g1, by rw [hwq]; exact setRow_heap w2 b2 _ _ T (0, 0) g2, [_], [v'], rfl, RelL_le hle _ hself2, [v'], [], rfl, RelL_le hle _ hyrel, rfl⟩)
      simp only [two, Option.some.injEq, Prod.mk.injEq] at h
      obtain ⟨rfl, rfl⟩ := h
      have hOO : over ((n, .box T [.ref n 0, y]) :: u0) O = upd (over u0 (upd O n (some (.box T [.ref n 0, l])))) n (some (.box T [.ref n 0, y])) := by
        rw [over_cons]
        funext k
        by_cases hk : k = n
        · subst hk; rw [upd_same, upd_same]
        · rw [upd_ne _ _ _ _ hk, upd_ne _ _ _ _ hk]
          unfold over
          rw [upd_ne _ _ _ _ hk]
      rw [hOO]
      refine ⟨rfl, b2, pa, v, v', v2, w2, S', β', hb1, hb2, hpa', hrun, hslice, g2, hc3, ?_⟩
      refine le_trans_same (le_trans_same le1 le2 ?_) le3 (fun _ _ _ _ _ _ => ?_)
      · intro k o o' hk hk' hlive
        obtain ⟨o1, ho1, _, hβ⟩ := le1.obj k o hk
        obtain ⟨o2, ho2, _, hβ2⟩ := le2.obj k o1 ho1
        simp only [Fr.rp] at hk' ho2 hβ2 ⊢
        rw [hk'] at ho2; cases ho2
        exact hβ2 hlive
      · rename_i k o o' hk hk' hlive
        obtain ⟨o1, ho1, _, hβ⟩ := le1.obj k o hk
        obtain ⟨o2, ho2, hto2, hβ2⟩ := le2.obj k o1 ho1
        obtain ⟨o3, ho3, hto3, _⟩ := le3.obj k o2 ho2
        simp only [Fr.rp] at hk' ho2 ho3 hβ2 ⊢
        rw [hk'] at ho3; cases ho3
        refine hβ2 ?_
        cases o2 with
        | dead => simp only [AObj.to] at hto3; subst hto3; cases hlive
        | _ => rfl
  · cases h

theorem bapp_new {lk : Nat → Option AObj} {d : Nat} {T U : TypeId} {n : Nat} {x : Lf} {r av : AV} {u : Upd} (h : bappOp c lk d T U n x r two = some (av, u)) :
    (∃ o', (d * 8, o') ∈ u) ∧ ∃ a l, lk n = some (.box T [a, l]) := by
  unfold bappOp at h
  split at h
  · rename_i T' a l hn
    cases hb : (Nat.beq T T' && selfOk a n) with
    | false => rw [hb] at h; cases h
    | true =>
      rw [hb] at h; simp only [cond_true] at h
      simp only [Bool.and_eq_true] at hb
      have hT := Nat.eq_of_beq_eq_true hb.1
      subst hT
      rw [appendOp_nat] at h
      simp only [Option.bind_eq_some_iff] at h
      obtain ⟨⟨av0, u0⟩, happ, h⟩ := h
      refine ⟨?_, _, _, hn⟩
      rcases appendOp_upd happ with ⟨_, _, _, rfl, _, rfl⟩ | ⟨_, _, _, _, _, _, _, _, _, rfl, rfl⟩
      · simp only [two, Option.some.injEq, Prod.mk.injEq] at h
        obtain ⟨_, rfl⟩ := h
        exact ⟨_, List.mem_cons_of_mem _ List.mem_cons_self⟩
      · simp only [two, Option.some.injEq, Prod.mk.injEq] at h
        obtain ⟨_, rfl⟩ := h
        exact ⟨_, List.mem_cons_of_mem _ (List.mem_cons_of_mem _ List.mem_cons_self)⟩
  · cases h

theorem push_setRow (w : World) (b : Nat) (cs : Array Value) (o : Obj) (hb : b < w.heap.size) : ({ w with heap := w.heap.push o } : World).setRow b cs = { w.setRow b cs with heap := (w.setRow b cs).heap.push o } := by
  unfold World.setRow
  simp only
  congr 1
  apply Array.ext
  · simp
  · intro i h1 h2
    simp only [Array.getElem_modify, Array.getElem_push, Array.size_modify, Array.size_push] at h1 h2 ⊢
    by_cases hi : i < w.heap.size
    · simp [hi]
    · have : i ≠ b := by omega
      simp [hi, Ne.symm this]

theorem ref_ptr (hc : Core F S β O w) {n : Nat} {T : TypeId} {ls : List Lf} (hn : O n = some (.box T ls)) {b : Nat} (hb : (β n).1 = some (b, 0)) {v : Value} (h : RelAV (F.rp S β O w) (.one (.ref n 0)) v) : v = .pointer (some ⟨b, 0, none⟩) := by
  have h := h.resolve_left (by simp)
  unfold RelL at h; simp only [Fr.rp] at h; rw [hn] at h; simp only at h
  obtain ⟨b', h1, h2⟩ := h
  rw [hb] at h1; simp only [Option.some.injEq, Prod.mk.injEq, and_true] at h1; subst h1
  simpa using h2
theorem args_eq {args : Array Value} {l : List Value} (h : args.toList = l) : args = l.toArray := by
  apply Array.ext'; rw [h]

theorem bwrite_ok (hE : EnvOk P c) (hc : Core F S β O w) {lk : Nat → Option AObj} (hlk : ∀ n o, lk n = some o → O n = some o) {d : Nat} {f : FuncId} {T U X : TypeId} (hk : c.intr f = some (.bwrite T U X)) {vs : List AV} {args : Array Value}
    (hr : RelAVs (F.rp S β O w) vs args.toList) {av : AV} {u : Upd} (h : intrOp c lk d (.bwrite T U X) vs two = some (av, u)) (hnew : ∀ n o', (n, o') ∈ u → n / 8 = d → n % 8 < 5 → O n = none) :
    Calls P f args w fun e w' => ∃ v S' β', e = .returned v ∧ Core F S' β' (over u O) w' ∧ (F.rp S β O w).le (F.rp S' β' (over u O) w') ∧ RelAV (F.rp S' β' (over u O) w') av v := by
  obtain ⟨_, hspec⟩ := hE.intr _ _ hk
  unfold intrOp at h
  split at h
  · rename_i T' U' X' n s heq
    cases heq
    cases hX : strOk c X with
    | false => rw [hX] at h; cases h
    | true =>
      rw [hX] at h; simp only [cond_true] at h
      obtain ⟨⟨o', hm⟩, a, l, hn⟩ := bapp_new h
      have hd := hnew _ _ hm (by omega) (by omega)
      obtain ⟨v1, r1, e1, h1, v2, r2, e2, h2, h3⟩ := hr
      simp only [RelAVs] at h3; subst h3; subst e2
      have hv2 : v2 = .string s := by
        have := h2.resolve_left (by simp)
        simpa [RelL, Rd] using this
      subst hv2
      obtain ⟨rfl, b, pa, v, v', uu, w2, S', β', g1, g2, g3, g4, gs, g5, g6, g7⟩ := bapp_core hE hc hlk hd (X := X) (by rw [hX]; simp) (vx := .string s) (fun q hq => RelL_le hq _ (h2.resolve_left (by simp))) (by intro m hm; cases hm) h
      have hv1 := ref_ptr hc (hlk _ _ hn) g1 h1
      subst hv1
      have := args_eq e1
      subst this
      refine (hspec w w2 b pa v v' uu s g2 g3 g4 gs g5).mono ?_
      rintro e w' ⟨rfl, rfl⟩
      refine ⟨_, S', β', rfl, g6, g7, _, rfl, ?_⟩
      exact ⟨_, _, rfl, ⟨_, rfl, .inr rfl⟩, _, _, rfl, ⟨_, rfl, .inl rfl⟩, rfl⟩
  all_goals first | contradiction | cases h

theorem bbyte_ok (hE : EnvOk P c) (hc : Core F S β O w) {lk : Nat → Option AObj} (hlk : ∀ n o, lk n = some o → O n = some o) {d : Nat} {f : FuncId} {T U X e : TypeId} (hk : c.intr f = some (.bbyte T U X e)) {vs : List AV} {args : Array Value}
    (hr : RelAVs (F.rp S β O w) vs args.toList) {av : AV} {u : Upd} (h : intrOp c lk d (.bbyte T U X e) vs two = some (av, u)) (hnew : ∀ n o', (n, o') ∈ u → n / 8 = d → n % 8 < 5 → O n = none) :
    Calls P f args w fun e w' => ∃ v S' β', e = .returned v ∧ Core F S' β' (over u O) w' ∧ (F.rp S β O w).le (F.rp S' β' (over u O) w') ∧ RelAV (F.rp S' β' (over u O) w') av v := by
  obtain ⟨_, hspec⟩ := hE.intr _ _ hk
  unfold intrOp at h
  split at h
  · contradiction
  · rename_i T' U' X' e' n x heq
    cases heq
    cases hX : slOk c X with
    | false => rw [hX] at h; cases h
    | true =>
      rw [hX] at h; simp only [cond_true] at h
      rw [bappOp_nat] at h
      simp only [Option.bind_eq_some_iff, two, Option.some.injEq, Prod.mk.injEq] at h
      obtain ⟨⟨av1, u1⟩, h, rfl, rfl⟩ := h
      have h : bappOp c (fun k => bif Nat.beq k (d * 8 + 1) then some (.row e (.int .u8) [x] false) else lk k) d T U n (.row (d * 8 + 1)) (.one .undef) two = some (av1, u1) := h
      obtain ⟨⟨o', hm⟩, a, l, hn⟩ := bapp_new h
      have hd := hnew _ _ (List.mem_append_left _ hm) (by omega) (by omega)
      have hd1 := hnew (d * 8 + 1) _ (List.mem_append_right _ List.mem_cons_self) (by omega) (by omega)
      have hne : n ≠ d * 8 + 1 := by
        rintro rfl
        simp only [Nat.beq_refl, cond_true] at hn; cases hn
      have hn' : lk n = some (.box T [a, l]) := by
        have hb : Nat.beq n (d * 8 + 1) = false := by
          cases hq : Nat.beq n (d * 8 + 1)
          · rfl
          · exact absurd (Nat.eq_of_beq_eq_true hq) hne
        rw [hb] at hn; exact hn
      obtain ⟨v1, r1, e1, h1, v2, r2, e2, h2, h3⟩ := hr
      simp only [RelAVs] at h3; subst h3; subst e2
      have hv2 : v2 = .int .u8 x := by
        have := h2.resolve_left (by simp)
        simpa [RelL, Rd] using this
      subst hv2
      obtain ⟨hc1, le1⟩ := hc.new hd1 (.row e (.int .u8) [x] false) (by intro _ _ _ hh; cases hh) (.cells #[.int .u8 x] e (0, 0)) 1 (by
        intro q hq hb hw
        refine .inr ⟨w.heap.size, 0, #[.int .u8 x], [.int .u8 x], [], by rw [hb], hw, by rw [hb]; exact Nat.le_refl _, rfl, ⟨[.int .u8 x], [], rfl, rfl, rfl⟩, by rw [hb]; exact Nat.le_refl _, Nat.zero_le _, ?_⟩
        intro v hv; simp at hv; subst hv; rfl)
      have hx : RelL (F.rp S (upd β (d * 8 + 1) (some (w.heap.size, 0), 1)) (upd O (d * 8 + 1) (some (.row e (.int .u8) [x] false))) { w with heap := w.heap.push (.cells #[.int .u8 x] e (0, 0)) }) (.row (d * 8 + 1)) [.slice (some ⟨w.heap.size, 0, none⟩) 1 1] := by
        unfold RelL; simp only [Fr.rp, upd_same]; rfl
      have hlk1 : ∀ m o, (fun k => bif Nat.beq k (d * 8 + 1) then some (AObj.row e (.int .u8) [x] false) else lk k) m = some o → upd O (d * 8 + 1) (some (.row e (.int .u8) [x] false)) m = some o := by
        intro m o hm
        simp only at hm
        cases hq : Nat.beq m (d * 8 + 1)
        · rw [hq] at hm
          have : m ≠ d * 8 + 1 := by rintro rfl; simp [Nat.beq_refl] at hq
          rw [upd_ne _ _ _ _ this]; exact hlk _ _ hm
        · rw [hq] at hm
          rw [Nat.eq_of_beq_eq_true hq, upd_same]; exact hm
      obtain ⟨rfl, b, pa, v, v', uu, w2, S', β', g1, g2, g3, g4, gs, g5, g6, g7⟩ := bapp_core hE hc1 hlk1 (by rw [upd_ne _ _ _ _ (by omega)]; exact hd) (X := X) (by rw [hX]; simp) (vx := .slice (some ⟨w.heap.size, 0, none⟩) 1 1) (fun q hq => RelL_le hq _ hx)
        (by intro m hm; cases hm; exact ⟨by simp [Nat.beq_refl], Ne.symm hne⟩) h
      have hOn := hlk _ _ hn'
      rw [upd_ne _ _ _ _ hne] at g1
      obtain ⟨b', arr, k1, k2, _⟩ := hc.obj n _ hOn
      simp only [Fr.rp] at k1 k2
      rw [g1] at k1; simp only [Option.some.injEq, Prod.mk.injEq, and_true] at k1; subst k1
      have hblt : b < w.heap.size := (Array.getElem?_eq_some_iff.1 k2).1
      have hv1 := ref_ptr hc hOn g1 h1
      subst hv1
      have := args_eq e1
      subst this
      have g2' : w.heap[b]? = some (.cells #[pa, v] T (0, 0)) := by
        rw [← g2]; exact (getElem?_push_lt _ _ _ hblt).symm
      rw [push_setRow _ _ _ _ hblt] at g4
      refine (hspec w w2 b pa v v' uu x g2' g3 g4 gs g5).mono ?_
      rintro e0 w' ⟨rfl, rfl⟩
      rw [over_append, over_cons, over_nil]
      refine ⟨_, S', β', rfl, g6, le_trans_same le1 g7 ?_, .inl rfl⟩
      intro k o1 o2 hk hk2 hlive
      obtain ⟨o3, ho3, _, hβ⟩ := le1.obj k o1 hk
      obtain ⟨o4, ho4, hto4, hβ4⟩ := g7.obj k o3 ho3
      simp only [Fr.rp] at hk hk2 ho3 ho4 hβ hβ4 ⊢
      rw [hk2] at ho4; cases ho4
      rw [hβ4 hlive]
      exact upd_ne _ _ _ _ (by rintro rfl; rw [hd1] at hk; cases hk)
  all_goals first | contradiction | cases h

theorem grown_core (hc : Core F S β O w) {w' : World} (h1 : w'.os = w.os) (h2 : w'.tape = w.tape) (h3 : w'.output = w.output) (h4 : w.heap.size ≤ w'.heap.size) (hkeep : ∀ k, k < w.heap.size → w'.heap[k]? = w.heap[k]?) :
    Core F S β O w' ∧ (F.rp S β O w).le (F.rp S β O w') := by
  refine hc.change (fun _ => False) h1 h2 h3 h4 (fun k hk _ => hkeep k hk) (fun _ _ h => h) ?_ (fun _ _ => ⟨rfl, rfl⟩) (fun _ _ _ h => h.elim) (fun _ _ _ _ h => h.elim) (fun _ _ _ _ h => h.elim) (fun _ _ _ _ _ _ _ h => h.elim) (fun _ _ h => .inl h) ?_ hc.still (fun _ _ _ _ _ _ _ h => h.elim)
  · intro b i v hs hv; rw [← hv]; exact cellAt_block (hkeep b (hc.dom b i hs))
  · intro b i hs; exact Nat.lt_of_lt_of_le (hc.dom b i hs) h4

theorem kill_core (hc : Core F S β O w) {m : Nat} {e : TypeId} {t : Ty} {xs : List t.V} (hm : O m = some (.row e t xs false)) {w' : World} (h1 : w'.os = w.os) (h2 : w'.tape = w.tape) (h3 : w'.output = w.output) (h4 : w.heap.size ≤ w'.heap.size)
    (hkeep : ∀ k, k < w.heap.size → (∀ off, (β m).1 ≠ some (k, off)) → w'.heap[k]? = w.heap[k]?) :
    Core F S β (upd O m (some .dead)) w' ∧ (F.rp S β O w).le (F.rp S β (upd O m (some .dead)) w') := by
  refine hc.change (fun k => k = m) h1 h2 h3 h4 (fun k hk hb => hkeep k hk fun off => hb m _ off hm rfl rfl) (fun _ _ h => h) ?_ ?_ ?_ ?_ ?_ ?_ (fun _ _ h => .inl h) ?_ ?_ ?_
  · intro b i v hs hv
    rw [← hv]; refine cellAt_block (hkeep b (hc.dom b i hs) fun off hb => ?_)
    obtain ⟨_, _, _, h, _⟩ := hc.still b i m _ off hs hm rfl hb
    cases h
  · intro k hk; exact ⟨upd_ne _ _ _ _ hk, rfl⟩
  · rintro k o hO rfl
    rw [hm] at hO; cases hO
    exact ⟨.dead, upd_same _ _ _, .inl rfl, fun h => by cases h⟩
  · rintro _ k o hO rfl
    rw [upd_same] at hO; cases hO; trivial
  · rintro k o b off rfl hO hl _
    rw [upd_same] at hO; cases hO; cases hl
  · rintro k j o o' b x y rfl hO _ hl
    rw [upd_same] at hO; cases hO; cases hl
  · intro b i hs; exact Nat.lt_of_lt_of_le (hc.dom b i hs) h4
  · intro b i k o off hs hO hl hb
    by_cases hk : k = m
    · subst hk; rw [upd_same] at hO; cases hO; cases hl
    · rw [upd_ne _ _ _ _ hk] at hO; exact hc.still b i k o off hs hO hl hb
  · rintro k e t xs b off i rfl hO
    rw [upd_same] at hO; cases hO

theorem bytes_cells {S : CellSet} {w : World} : ∀ {cs : List Value} {xs : List Int}, RdsOf (Rd S w (.int .u8)) cs xs → (∀ x ∈ xs, 0 ≤ x ∧ x < 256) → cs = (xs.map fun n => UInt8.ofNat n.toNat).map fun b => .int .u8 (b.toNat : Int)
  | _, [], h, _ => h
  | _, x :: xs, ⟨c, d, e, h1, h2⟩, hb => by
    subst e
    have hx := hb x (by simp)
    simp only [Rd] at h1; subst h1
    rw [bytes_cells h2 (fun y hy => hb y (by simp [hy]))]
    have : ((UInt8.ofNat x.toNat).toNat : Int) = x := by
      rw [UInt8.toNat_ofNat']; omega
    simp only [List.map_cons, List.singleton_append, this]

theorem bstr_ok (hE : EnvOk P c) (hc : Core F S β O w) {lk : Nat → Option AObj} (hlk : ∀ n o, lk n = some o → O n = some o) {d : Nat} {f : FuncId} {T e : TypeId} (hk : c.intr f = some (.bstr T e)) {vs : List AV} {args : Array Value}
    (hr : RelAVs (F.rp S β O w) vs args.toList) {av : AV} {u : Upd} (h : intrOp c lk d (.bstr T e) vs two = some (av, u)) :
    Calls P f args w fun e w' => ∃ v S' β', e = .returned v ∧ Core F S' β' (over u O) w' ∧ (F.rp S β O w).le (F.rp S' β' (over u O) w') ∧ RelAV (F.rp S' β' (over u O) w') av v := by
  obtain ⟨_, hspec⟩ := hE.intr _ _ hk
  unfold intrOp at h
  split at h
  · contradiction
  · contradiction
  · rename_i T' e' n heq
    cases heq
    unfold bstrOp at h
    split at h
    · rename_i T' a l hn
      cases hb : (Nat.beq T T' && selfOk a n) with
      | false => rw [hb] at h; cases h
      | true =>
        rw [hb] at h; simp only [cond_true] at h
        simp only [Bool.and_eq_true] at hb
        obtain ⟨hT, hself⟩ := hb
        have hT := Nat.eq_of_beq_eq_true hT
        subst hT
        have hO := hlk n _ hn
        have hasz : a.size = 1 := by
          unfold selfOk at hself
          split at hself
          · rfl
          · rfl
          · cases hself
        obtain ⟨v1, r1, e1, h1, h3⟩ := hr
        simp only [RelAVs] at h3; subst h3
        split at h
        · rename_i e0 t0
          simp only [two, Option.some.injEq, Prod.mk.injEq] at h
          obtain ⟨rfl, rfl⟩ := h
          obtain ⟨b, pa, v, g1, g2, _, g4⟩ := box_two hc hO hasz rfl
          have hv1 := ref_ptr hc hO g1 h1
          subst hv1
          have := args_eq e1
          subst this
          simp only [RelL, List.cons.injEq, and_true] at g4
          refine (hspec w b pa v [] (by simp) g2 (.inl ⟨g4, rfl⟩)).mono ?_
          rintro e w' ⟨rfl, k1, k2, k3, k4, k5⟩
          obtain ⟨k6, k7⟩ := grown_core hc k1 k2 k3 k4 (fun k hk => k5 k hk fun g o m n hv => by rw [g4] at hv; cases hv)
          rw [over_nil]
          exact ⟨_, S, β, rfl, k6, k7, .inr rfl⟩
        · rename_i m
          split at h
          · rename_i e0 t xs hm
            cases he : Nat.beq e e0 with
            | false => rw [he] at h; cases h
            | true =>
              rw [he] at h
              have he := Nat.eq_of_beq_eq_true he
              subst he
              simp only [cond_true, bindD, Option.bind_eq_some_iff, two, Option.some.injEq, Prod.mk.injEq] at h
              obtain ⟨ys, hys, st, hst, rfl, rfl⟩ := h
              obtain ⟨et, hys⟩ := castV_len hys
              cases et
              have hys : xs = ys := hys
              subst hys
              unfold bytesOf at hst
              split at hst
              · rename_i hall
                simp only [Bool.and_eq_true] at hall
                obtain ⟨hall, hlen⟩ := hall
                have hlen := Nat.le_of_ble_eq_true hlen
                simp only [Option.some.injEq] at hst
                subst hst
                have hall : ∀ x ∈ xs, 0 ≤ x ∧ x < 256 := by
                  intro x hx
                  have := List.all_eq_true.1 hall x hx
                  simpa using this
                obtain ⟨b, pa, v, g1, g2, _, g4⟩ := box_two hc hO hasz rfl
                have hv1 := ref_ptr hc hO g1 h1
                subst hv1
                have := args_eq e1
                subst this
                have hOm := hlk m _ hm
                unfold RelL at g4; simp only [Fr.rp] at g4; rw [hOm] at g4; simp only [List.cons.injEq, and_true] at g4
                have hrow := hc.obj m _ hOm
                have hsp : (v = .slice none 0 0 ∧ (xs.map fun n => UInt8.ofNat n.toNat) = []) ∨ ∃ g o cap arr rest, g ≠ b ∧ v = .slice (some ⟨g, o, none⟩) (xs.map fun n => UInt8.ofNat n.toNat).length cap ∧ w.heap[g]? = some (.cells arr e (0, 0)) ∧
                    (xs.map fun n => UInt8.ofNat n.toNat).length ≤ cap ∧ arr.toList.drop o = ((xs.map fun n => UInt8.ofNat n.toNat).map fun x => .int .u8 x.toNat) ++ rest ∧ o + cap ≤ arr.size := by
                  rcases hrow with ⟨q1, rfl⟩ | ⟨g, o, arr, cs, rest, q1, q2, q3, q4, q5, q6, _⟩
                  · simp only [Fr.rp] at q1
                    exact .inl ⟨by rw [g4, q1]; rfl, rfl⟩
                  · simp only [Fr.rp] at q1 q2 q3 q5 q6
                    refine .inr ⟨g, o, (β m).2, arr, rest, ?_, ?_, q2, by simpa using q3, ?_, by simpa [Ty.size] using q6⟩
                    · rintro rfl
                      have := hc.apart m n _ _ g o 0 hOm hO rfl rfl q1 g1
                      subst this
                      rw [hO] at hOm; cases hOm
                    · rw [g4, q1]; simp [addrOf]
                    · rw [q4, bytes_cells q5 hall]
                refine (hspec w b pa v _ (by simpa using hlen) g2 hsp).mono ?_
                rintro e w' ⟨rfl, k1, k2, k3, k4, k5⟩
                obtain ⟨k6, k7⟩ := kill_core hc hOm k1 k2 k3 k4 (fun k hk hne => k5 k hk fun g o m' n' hv => by
                  rintro rfl
                  rw [g4] at hv
                  cases hq : (β m).1 with
                  | none => rw [hq] at hv; cases hv
                  | some p =>
                    rw [hq] at hv
                    simp only [addrOf, Value.slice.injEq, Option.some.injEq, Addr.mk.injEq] at hv
                    obtain ⟨⟨rfl, rfl, _⟩, _⟩ := hv
                    exact hne p.2 hq)
                rw [over_cons, over_nil]
                exact ⟨_, S, β, rfl, k6, k7, .inr rfl⟩
              · cases hst
          · cases h
        · cases h
    · cases h
  all_goals first | contradiction | cases h

theorem adopt_core (hc : Core F S β O w) {d g cap : Nat} {e : TypeId} {t : Ty} {arr : Array Value} (hd : O d = none) {w' : World} (h1 : w'.os = w.os) (h2 : w'.tape = w.tape) (h3 : w'.output = w.output) (h4 : w.heap.size ≤ w'.heap.size)
    (hkeep : ∀ k, k < w.heap.size → w'.heap[k]? = w.heap[k]?) (hg : w.heap.size ≤ g) (hgh : w'.heap[g]? = some (.cells arr e (0, 0))) (hcap : cap * t.size ≤ arr.size) (hone : ∀ v ∈ arr.toList, v.oneCell' = true) :
    Core F S (upd β d (some (g, 0), cap)) (upd O d (some (.row e t [] false))) w' ∧ (F.rp S β O w).le (F.rp S (upd β d (some (g, 0), cap)) (upd O d (some (.row e t [] false))) w') := by
  refine hc.change (fun k => k = d) h1 h2 h3 h4 (fun k hk _ => hkeep k hk) (fun _ _ h => h) ?_ ?_ ?_ ?_ ?_ ?_ (fun _ _ h => .inl h) ?_ ?_ ?_
  · intro b i v hs hv; rw [← hv]; exact cellAt_block (hkeep b (hc.dom b i hs))
  · intro k hk; exact ⟨upd_ne _ _ _ _ hk, upd_ne _ _ _ _ hk⟩
  · rintro k o hO rfl; rw [hd] at hO; cases hO
  · rintro _ k o hO rfl
    rw [upd_same] at hO; cases hO
    refine .inr ⟨g, 0, arr, [], arr.toList, by simp [Fr.rp, upd_same], hgh, by simp, by simp, rfl, ?_, Nat.zero_le _, hone⟩
    simp only [Fr.rp, upd_same]; omega
  · rintro k o b off rfl hO _ hb
    rw [upd_same] at hb
    simp only [Option.some.injEq, Prod.mk.injEq] at hb
    obtain ⟨rfl, _⟩ := hb
    exact .inl (Nat.le_trans hc.size hg)
  · rintro k j o o' b x y rfl hO hO' hl hl' hb hb'
    by_cases hj : j = k
    · exact hj.symm
    · rw [upd_same] at hb
      simp only [Option.some.injEq, Prod.mk.injEq] at hb
      obtain ⟨rfl, _⟩ := hb
      rw [upd_ne _ _ _ _ hj] at hO' hb'
      have := ObjR_block (hc.obj j o' hO') hl' hb'
      exact absurd (show g < w.heap.size from this) (by omega)
  · intro b i hs; exact Nat.lt_of_lt_of_le (hc.dom b i hs) h4
  · intro b i k o off hs hO hl hb
    by_cases hk : k = d
    · subst hk
      rw [upd_same] at hb
      simp only [Option.some.injEq, Prod.mk.injEq] at hb
      obtain ⟨rfl, _⟩ := hb
      have := hc.dom _ _ hs
      omega
    · rw [upd_ne _ _ _ _ hk] at hO hb
      exact hc.still b i k o off hs hO hl hb
  · rintro k e t xs b off i rfl hO
    rw [upd_same] at hO; cases hO

theorem grow_intr_ok (hE : EnvOk P c) (hc : Core F S β O w) {lk : Nat → Option AObj} {d : Nat} {f : FuncId} {T : TypeId} (hk : c.intr f = some (.grow T)) {vs : List AV} {args : Array Value}
    (hr : RelAVs (F.rp S β O w) vs args.toList) {av : AV} {u : Upd} (h : intrOp c lk d (.grow T) vs two = some (av, u)) (hnew : ∀ n o', (n, o') ∈ u → n / 8 = d → n % 8 < 5 → O n = none) :
    Calls P f args w fun e w' => ∃ v S' β', e = .returned v ∧ Core F S' β' (over u O) w' ∧ (F.rp S β O w).le (F.rp S' β' (over u O) w') ∧ RelAV (F.rp S' β' (over u O) w') av v := by
  obtain ⟨_, hspec⟩ := hE.intr _ _ hk
  unfold intrOp at h
  split at h
  · contradiction
  · contradiction
  · contradiction
  · rename_i T' e t n heq
    cases heq
    simp only [Option.bind_eq_some_iff] at h
    obtain ⟨te, hte, h⟩ := h
    split at h
    · rename_i e' hde
      cases hb : (Nat.beq e e' && eltOk c T t) with
      | false => rw [hb] at h; cases h
      | true =>
        rw [hb] at h
        simp only [Bool.and_eq_true] at hb
        obtain ⟨he, hel⟩ := hb
        have he := Nat.eq_of_beq_eq_true he
        subst he
        simp only [cond_true] at h
        by_cases hn : n < 0
        · rw [decide_eq_true hn] at h; cases h
        · rw [decide_eq_false hn] at h
          have h : (bindD (Go.Proofs.R.grow n.toNat) fun _ => two (.one (.row (d * 8))) [(d * 8, .row e t [] false)]) = some (av, u) := h
          simp only [bindD, Option.bind_eq_some_iff, two, Option.some.injEq, Prod.mk.injEq] at h
          obtain ⟨_, hg, rfl, rfl⟩ := h
          have hgl := grow_le hg
          unfold mostLen at hgl
          have hn0 : (0 : Int) ≤ n := Int.not_lt.1 hn
          have hn1 : (n : Int) ≤ 4294967296 := by
            have h4 : ((n : Int).toNat : Int) = n := Int.toNat_of_nonneg hn0
            have h5 : ∀ m : Nat, m ≤ 4294967296 → (m : Int) ≤ 4294967296 := fun m hm => by omega
            rw [← h4]; exact h5 _ hgl
          have hd := hnew _ _ List.mem_cons_self (by omega) (by omega)
          obtain ⟨e1, ee, hTu, hee, hsz, hpos, te', hte', hde'⟩ := eltOk_spec hE hel
          rw [hte] at hte'; cases hte'
          rw [hde] at hde'; cases hde'
          obtain ⟨i, zv, hi, hisz, _⟩ := (hE.te e ee hee).info
          obtain ⟨v1, r1, e1, h1, v2, r2, e2, h2, h3⟩ := hr
          simp only [RelAVs] at h3; subst h3; subst e2
          have hv1 : v1 = .slice none 0 0 := by
            have := h1.resolve_left (by simp)
            simpa [RelL] using this
          have hv2 : v2 = .int .i64 n := by
            have := h2.resolve_left (by simp)
            simpa [RelL, Rd] using this
          subst hv1; subst hv2
          have := args_eq e1
          subst this
          refine (hspec e hTu w n hn0 hn1).mono ?_
          rintro ex w' ⟨A, cap, rfl, k1, k2, k3, k4, k5, k6⟩
          have hov : over [(d * 8, AObj.row e t ([] : List t.V) false)] O = upd O (d * 8) (some (.row e t [] false)) := by rw [over_cons, over_nil]
          rcases k6 with ⟨rfl, rfl⟩ | ⟨g, arr, i', rfl, q1, q2, q3, q4, q5⟩
          · obtain ⟨c1, l1⟩ := grown_core hc k1 k2 k3 k4 k5
            obtain ⟨c2, l2⟩ := c1.newNil (e := e) (t := t) hd
            try rw [hov] at c2 l2
            rw [hov]
            refine ⟨_, _, _, rfl, c2, le_trans_same l1 l2 ?_, .inr ?_⟩
            · intro k o o' hk hk' _
              simp only [Fr.rp] at hk hk' ⊢
              have hkd : k ≠ d * 8 := by rintro rfl; rw [hd] at hk; cases hk
              exact upd_ne _ _ _ _ hkd
            · unfold RelL; simp only [Fr.rp, upd_same]; rfl
          · rw [hi] at q3; cases q3
            obtain ⟨c2, l2⟩ := adopt_core (t := t) hc hd k1 k2 k3 k4 k5 q1 q2 (by rw [← hsz, ← hisz]; exact q4) q5
            rw [hov]
            refine ⟨_, _, _, rfl, c2, l2, .inr ?_⟩
            unfold RelL; simp only [Fr.rp, upd_same]; rfl
    · cases h
  all_goals first | contradiction | cases h

theorem RdsOf_rev {α : Type} {R : List Value → α → Prop} (h1 : ∀ c x, R c x → c.length = 1) : ∀ {cs : List Value} {xs : List α}, RdsOf R cs xs → RdsOf R cs.reverse xs.reverse
  | cs, [], h => by simp only [RdsOf] at h; subst h; rfl
  | cs, x :: xs, ⟨c, d, e, h2, h3⟩ => by
    subst e
    have hl := h1 _ _ h2
    match c, hl with
    | [v], _ =>
      rw [List.singleton_append, List.reverse_cons, List.reverse_cons]
      exact RdsOf_append (RdsOf_rev h1 h3) ⟨[v], [], rfl, h2, rfl⟩

theorem rev_intr_ok (hE : EnvOk P c) (hc : Core F S β O w) {lk : Nat → Option AObj} (hlk : ∀ n o, lk n = some o → O n = some o) {d : Nat} {f : FuncId} {T : TypeId} (hk : c.intr f = some (.rev T)) {vs : List AV} {args : Array Value}
    (hr : RelAVs (F.rp S β O w) vs args.toList) {av : AV} {u : Upd} (h : intrOp c lk d (.rev T) vs two = some (av, u)) :
    Calls P f args w fun e w' => ∃ v S' β', e = .returned v ∧ Core F S' β' (over u O) w' ∧ (F.rp S β O w).le (F.rp S' β' (over u O) w') ∧ RelAV (F.rp S' β' (over u O) w') av v := by
  obtain ⟨_, hspec0, hspec⟩ := hE.intr _ _ hk
  unfold intrOp at h
  split at h
  · contradiction
  · contradiction
  · contradiction
  · contradiction
  · rename_i T' l heq
    cases heq
    obtain ⟨v1, r1, e1, h1, h2⟩ := hr
    simp only [RelAVs] at h2; subst h2
    have ha : args = #[v1] := by
      apply Array.toList_inj.1; rw [e1]
    subst ha
    split at h
    · rename_i e t
      cases hb : slOk c T with
      | false => rw [hb] at h; cases h
      | true =>
        rw [hb] at h
        simp only [cond_true, two, Option.some.injEq, Prod.mk.injEq] at h
        obtain ⟨rfl, rfl⟩ := h
        have hv1 : v1 = .slice none 0 0 := by
          have := h1.resolve_left (by simp)
          simpa [RelL] using this
        subst hv1
        refine (hspec0 w none 0).mono ?_
        rintro ex w' ⟨rfl, rfl⟩
        exact ⟨_, S, β, rfl, hc, le_refl _, ⟨_, rfl, rfl⟩⟩
    · rename_i n
      split at h
      · rename_i e t xs hl
        cases hb : (eltOk c T t && Nat.beq t.size 1) with
        | false => rw [hb] at h; cases h
        | true =>
          rw [hb] at h
          simp only [Bool.and_eq_true] at hb
          have h1s := Nat.eq_of_beq_eq_true hb.2
          simp only [cond_true, bindD, Option.bind_eq_some_iff, two, Option.some.injEq, Prod.mk.injEq] at h
          obtain ⟨_, hgr, rfl, rfl⟩ := h
          have hgl := grow_le hgr
          unfold mostLen at hgl
          have hO := hlk _ _ hl
          have hv1 := h1.resolve_left (by simp)
          unfold RelL at hv1
          rw [show (F.rp S β O w).O n = some (.row e t xs false) from hO] at hv1
          simp only [Fr.rp, List.cons.injEq, and_true] at hv1
          subst hv1
          have hov : over [(n, AObj.row e t (revL xs) false)] O = upd O n (some (.row e t (revL xs) false)) := by rw [over_cons, over_nil]
          rw [hov]
          rcases hc.obj n _ hO with ⟨g1, g2⟩ | ⟨b, o, arr, cs, rest, g1, g2, g3, g4, g5, g6, g7, g8⟩
          · subst g2
            have g1 : β n = (none, 0) := g1
            refine (hspec0 w _ _).mono ?_
            rintro ex w' ⟨rfl, rfl⟩
            have hsame : upd O n (some (.row e t (revL ([] : List t.V)) false)) = O := by
              funext m
              by_cases hm : m = n
              · subst hm; rw [upd_same, hO]; rfl
              · rw [upd_ne _ _ _ _ hm]
            rw [hsame]
            exact ⟨_, S, β, rfl, hc, le_refl _, ⟨_, rfl, rfl⟩⟩
          · have g1 : (β n).1 = some (b, o) := g1
            have g2 : w.heap[b]? = some (.cells arr e (0, 0)) := g2
            have hcl : cs.length = xs.length := by
              have := RdsOf_len (fun _ _ => Rd_len t) g5
              rw [h1s] at this; omega
            have harr : arr = (arr.toList.take o ++ (cs ++ rest)).toArray := by
              apply Array.toList_inj.1
              rw [← g4]; simp
            have hpre : (arr.toList.take o).length = o := by simp; omega
            have hsz : xs.length ≤ 9223372036854775807 := by omega
            have hone : ∀ v ∈ cs, v.oneCell' = true := RdsOf_one (fun _ _ => Rd_one t) g5
            have := hspec w b (β n).2 e (arr.toList.take o) cs rest (by rw [← harr]; exact g2) (by omega) hone
            rw [hpre, hcl] at this
            rw [g1]
            refine this.mono ?_
            rintro ex w' ⟨rfl, m, rfl⟩
            obtain ⟨c1, l1⟩ := hc.write hO rfl (o' := .row e t (revL xs) false) (.inr ⟨_, _, _, rfl, by simp [revL]⟩) rfl g1 (by intro e t xs hh; cases hh) (by intro e t xs hh; cases hh)
              (arr.toList.take o ++ (cs.reverse ++ rest)).toArray (by
                intro q le hqb hqw
                refine .inr ⟨b, o, (arr.toList.take o ++ (cs.reverse ++ rest)).toArray, cs.reverse, rest, by rw [hqb]; exact g1, ?_, ?_, ?_, ?_, ?_, ?_, ?_⟩
                · rw [hqw]; exact setRow_heap w b arr _ e (0, 0) g2
                · rw [hqb]; show (revL xs).length ≤ (β n).2; rw [show (revL xs).length = xs.length from List.length_reverse]; exact g3
                · simp [hpre]
                  try rw [List.drop_append_of_le_length (by omega)]
                · exact RdsOf_rev (fun c x hx => by rw [Rd_len t hx, h1s]) (RdsOf_mono (fun _ _ => Rd_mono le.S (fun b i v hs => le.cells b i v (.inl hs)) t) g5)
                · rw [hqb]
                  have : arr.size = (arr.toList.take o ++ (cs.reverse ++ rest)).toArray.size := by
                    conv => lhs; rw [harr]
                    simp
                  rw [← this]; exact g6
                · have : arr.size = (arr.toList.take o ++ (cs.reverse ++ rest)).toArray.size := by
                    conv => lhs; rw [harr]
                    simp
                  rw [← this]; exact g7
                · intro v hv
                  refine g8 v ?_
                  rw [harr]
                  simpa using hv)
            obtain ⟨c2, l2⟩ := c1.drawn m
            exact ⟨_, S, β, rfl, c2, le_trans_same l1 l2 (fun _ _ _ _ _ _ => rfl), ⟨_, rfl, rfl⟩⟩
      · cases h
    · cases h
  · cases h

theorem intrOp_ok (hE : EnvOk P c) (hc : Core F S β O w) {lk : Nat → Option AObj} (hlk : ∀ n o, lk n = some o → O n = some o) {d : Nat} {f : FuncId} {k : Intr} (hk : c.intr f = some k) {vs : List AV} {args : Array Value}
    (hr : RelAVs (F.rp S β O w) vs args.toList) {av : AV} {u : Upd} (h : intrOp c lk d k vs two = some (av, u)) (hnew : ∀ n o', (n, o') ∈ u → n / 8 = d → n % 8 < 5 → O n = none) :
    (callFunc f args).run P w = .ok (.enter f args) w ∧ Calls P f args w fun e w' => ∃ v S' β', e = .returned v ∧ Core F S' β' (over u O) w' ∧ (F.rp S β O w).le (F.rp S' β' (over u O) w') ∧ RelAV (F.rp S' β' (over u O) w') av v := by
  refine ⟨(hE.intr _ _ hk).1 args w, ?_⟩
  cases k with
  | bwrite T U X => exact bwrite_ok hE hc hlk hk hr h hnew
  | bbyte T U X e => exact bbyte_ok hE hc hlk hk hr h hnew
  | bstr T e => exact bstr_ok hE hc hlk hk hr h
  | grow T => exact grow_intr_ok hE hc hk hr h hnew
  | rev T => exact rev_intr_ok hE hc hlk hk hr h
end
end Go.Proofs.R

/- Maps with plain keys and values. -/
namespace Go.Proofs.R
open Go

section
variable {P : Program} {c : Ctx}
variable {F : Fr} {S : CellSet} {β : Nat → Place} {O : Nat → Option AObj} {w : World} {a : Act} {σ : List (Nat × AV)} {o : Oper} {next : Act → World → Prop} {Q : Exit → Act → World → Prop}

/-- a type's description, where its values are plain -/
def PlainD : Ty → TypeDesc → Prop
  | .int k, d => d = .int k
  | .bool, d => d = .bool
  | .str, d => d = .string
  | _, _ => False

theorem plainD_of {P : Program} {c : Ctx} {T : TypeId} {te : TE} (h : TOk P c T te) {t : Ty} (ht : tyOfD te.d = some t) : ∃ d, P.underlying T = some d ∧ PlainD t d := by
  have hu := h.under
  unfold tyOfD at ht
  split at ht
  · rename_i k hk; cases ht; rw [hk] at hu; exact ⟨_, hu, rfl⟩
  · rename_i hk; cases ht; rw [hk] at hu; exact ⟨_, hu, rfl⟩
  · rename_i hk; cases ht; rw [hk] at hu; exact ⟨_, hu, rfl⟩
  · cases ht
theorem plain_agg {te : TE} {t : Ty} (ht : tyOfD te.d = some t) : aggOf te = false := by
  unfold tyOfD at ht
  unfold aggOf
  split at ht <;> first | (rename_i h; rw [h]) | cases ht
theorem plain_rd {S : CellSet} {w : World} {t : Ty} {d : TypeDesc} (h : PlainD t d) {x : t.V} {v : Value} (hr : Rd S w t [v] x) : plainV t x = some v := by
  cases t with
  | int k => unfold Rd at hr; simp only [List.cons.injEq, and_true] at hr; rw [hr]; rfl
  | bool => unfold Rd at hr; simp only [List.cons.injEq, and_true] at hr; rw [hr]; rfl
  | str => unfold Rd at hr; simp only [List.cons.injEq, and_true] at hr; rw [hr]; rfl
  | _ => exact h.elim
theorem plain_rd' {S : CellSet} {w : World} {t : Ty} {d : TypeDesc} (h : PlainD t d) {x : t.V} {v : Value} (hr : plainV t x = some v) : Rd S w t [v] x := by
  cases t with
  | int k => simp only [plainV, Option.some.injEq] at hr; subst hr; unfold Rd; rfl
  | bool => simp only [plainV, Option.some.injEq] at hr; subst hr; unfold Rd; rfl
  | str => simp only [plainV, Option.some.injEq] at hr; subst hr; unfold Rd; rfl
  | _ => exact h.elim
theorem plain_checkKey {t : Ty} {d : TypeDesc} (h : PlainD t d) {T : TypeId} (hu : P.underlying T = some d) (e : Bool) (n : Nat) (v : Value) (w : World) : (Instr.checkKey e (n + 1) T v).run P w = .ok () w := by
  unfold Instr.checkKey
  cases t with
  | int k => cases h; simp [run_underlying hu]
  | bool => cases h; simp [run_underlying hu]
  | str => cases h; simp [run_underlying hu]
  | _ => exact h.elim
theorem str_beq (x y : ByteArray) : (x == y) = decide (x = y) := by
  cases x with | mk x => cases y with | mk y =>
  show (x == y) = decide _
  by_cases h : x = y
  · subst h; simp
  · rw [beq_eq_false_iff_ne.2 h, decide_eq_false (fun q => h (by injection q))]
theorem plain_sameNow {t : Ty} {d : TypeDesc} (h : PlainD t d) {x y : t.V} {u v : Value} (hx : plainV t x = some u) (hy : plainV t y = some v) : Instr.sameNow d u v = some (keyEq t x y) := by
  cases t with
  | int k => cases h; cases hx; cases hy; simp only [Instr.sameNow, if_true]; rfl
  | bool => cases h; cases hx; cases hy; cases x <;> cases y <;> rfl
  | str => cases h; cases hx; cases hy; simp only [Instr.sameNow, keyEq]; rw [str_beq]
  | _ => exact h.elim
theorem plain_eq {t : Ty} {d : TypeDesc} (h : PlainD t d) {x y : t.V} {u v : Value} (hx : plainV t x = some u) (hy : plainV t y = some v) (he : keyEq t x y = true) : u = v := by
  cases t with
  | int k => cases hx; cases hy; simp only [keyEq, decide_eq_true_eq] at he; rw [he]
  | bool => cases hx; cases hy; simp only [keyEq, decide_eq_true_eq] at he; rw [he]
  | str => cases hx; cases hy; simp only [keyEq, decide_eq_true_eq] at he; rw [he]
  | _ => exact h.elim
theorem plain_sameBits {t : Ty} {d : TypeDesc} (h : PlainD t d) {x : t.V} {u : Value} (hx : plainV t x = some u) (n : Nat) : Instr.sameBits n u u = true := by
  cases t with
  | int k => cases hx; cases n <;> simp [Instr.sameBits]
  | bool => cases hx; cases n <;> simp [Instr.sameBits]
  | str => cases hx; cases n <;> simp [Instr.sameBits, str_beq]
  | _ => exact h.elim

/-- what the operations on maps need of the keys -/
structure KeyLaw (P : Program) (k : TypeId) (t : Ty) : Prop where
  check : ∀ (e : Bool) (x : t.V) (v : Value) (w : World), plainV t x = some v → (Instr.checkKey e 10000 k v).run P w = .ok () w
  bits : ∀ (x : t.V) (v : Value), plainV t x = some v → Instr.sameBits 10000 v v = true
  inj : ∀ (x y : t.V) (u v : Value), plainV t x = some u → plainV t y = some v → keyEq t x y = true → u = v
  find : ∀ (x : t.V) (kv : Value) (es : List MapEntry) (w : World), plainV t x = some kv → (∀ e ∈ es, ∃ y : t.V, plainV t y = some e.key) →
    ∃ r, (Instr.findKey k kv es).run P w = .ok r w ∧ ((r = none ∧ ∀ e ∈ es, ∀ y, plainV t y = some e.key → keyEq t x y = false) ∨
      ∃ j e, r = some (j, e.val) ∧ es[j]? = some e ∧ (∀ y, plainV t y = some e.key → keyEq t x y = true) ∧ ∀ i e', i < j → es[i]? = some e' → ∀ y, plainV t y = some e'.key → keyEq t x y = false)

theorem found_now {t : Ty} {d : TypeDesc} (h : PlainD t d) {x : t.V} {kv : Value} (hk : plainV t x = some kv) : ∀ (es : List MapEntry) (i : Nat), (∀ e ∈ es, ∃ y : t.V, plainV t y = some e.key) →
    ∃ r, Instr.findNow d kv es i = some r ∧ ((r = none ∧ ∀ e ∈ es, ∀ y, plainV t y = some e.key → keyEq t x y = false) ∨
      ∃ j e, r = some (i + j, e.val) ∧ es[j]? = some e ∧ (∀ y, plainV t y = some e.key → keyEq t x y = true) ∧ ∀ i e', i < j → es[i]? = some e' → ∀ y, plainV t y = some e'.key → keyEq t x y = false)
  | [], i, he => ⟨none, rfl, .inl ⟨rfl, by simp⟩⟩
  | e :: es, i, he => by
    obtain ⟨y, hy⟩ := he e (by simp)
    have hs := plain_sameNow h hk hy
    have hall : ∀ y', plainV t y' = some e.key → keyEq t x y' = keyEq t x y := by
      intro y' hy'
      have := plain_sameNow h hk hy'
      rw [hs] at this; exact (Option.some.inj this).symm
    cases hq : keyEq t x y with
    | true =>
      refine ⟨some (i, e.val), by simp only [Instr.findNow, hs, hq], .inr ⟨0, e, rfl, rfl, fun y' hy' => by rw [hall y' hy', hq], fun i e' hi => by omega⟩⟩
    | false =>
      obtain ⟨r, h1, h2⟩ := found_now h hk es (i + 1) fun e he' => he e (by simp [he'])
      refine ⟨r, by simp only [Instr.findNow, hs, hq, h1], ?_⟩
      rcases h2 with ⟨rfl, h2⟩ | ⟨j, e1, rfl, h3, h4, h5⟩
      · refine .inl ⟨rfl, fun e1 he1 y' hy' => ?_⟩
        rcases List.mem_cons.1 he1 with rfl | he1
        · rw [hall y' hy', hq]
        · exact h2 e1 he1 y' hy'
      · refine .inr ⟨j + 1, e1, by rw [Nat.add_assoc, Nat.add_comm 1 j], by simpa using h3, h4, fun i' e' hi' he1 y' hy' => ?_⟩
        cases i' with
        | zero => simp at he1; subst he1; rw [hall y' hy', hq]
        | succ i' => exact h5 i' e' (by omega) (by simpa using he1) y' hy'

theorem plain_law {t : Ty} {d : TypeDesc} (h : PlainD t d) {k : TypeId} (hu : P.underlying k = some d) : KeyLaw P k t where
  check := fun e x v w _ => plain_checkKey h hu e 9999 v w
  bits := fun x v hx => plain_sameBits h hx 10000
  inj := fun x y u v hx hy he => plain_eq h hx hy he
  find := fun x kv es w hx he => by
    obtain ⟨r, h1, h2⟩ := found_now h hx es 0 he
    refine ⟨r, by simp [Instr.findKey, run_underlying hu, h1], ?_⟩
    rcases h2 with h2 | ⟨j, e, rfl, h3⟩
    · exact .inl h2
    · exact .inr ⟨j, e, by rw [Nat.zero_add], h3⟩

/-! keys of several cells -/
theorem found_asking {k : TypeId} {t : Ty} (heq : ∀ (x y : t.V) (u v : Value) (w : World), plainV t x = some u → plainV t y = some v → (Op.equal k u v).run P w = .ok (keyEq t x y) w) {x : t.V} {kv : Value} (hk : plainV t x = some kv) (w : World) :
    ∀ (es : List MapEntry) (i : Nat), (∀ e ∈ es, ∃ y : t.V, plainV t y = some e.key) →
    ∃ r, (Instr.findAsking k kv es i).run P w = .ok r w ∧ ((r = none ∧ ∀ e ∈ es, ∀ y, plainV t y = some e.key → keyEq t x y = false) ∨
      ∃ j e, r = some (i + j, e.val) ∧ es[j]? = some e ∧ (∀ y, plainV t y = some e.key → keyEq t x y = true) ∧ ∀ i e', i < j → es[i]? = some e' → ∀ y, plainV t y = some e'.key → keyEq t x y = false)
  | [], i, he => ⟨none, by simp [Instr.findAsking], .inl ⟨rfl, by simp⟩⟩
  | e :: es, i, he => by
    obtain ⟨y, hy⟩ := he e (by simp)
    have hs := heq x y kv e.key w hk hy
    have hall : ∀ y', plainV t y' = some e.key → keyEq t x y' = keyEq t x y := by
      intro y' hy'
      have := heq x y' kv e.key w hk hy'
      rw [hs] at this; simpa using this.symm
    cases hq : keyEq t x y with
    | true =>
      rw [hq] at hs
      refine ⟨some (i, e.val), by simp [Instr.findAsking, hs], .inr ⟨0, e, rfl, rfl, fun y' hy' => by rw [hall y' hy', hq], fun i e' hi => by omega⟩⟩
    | false =>
      rw [hq] at hs
      obtain ⟨r, h1, h2⟩ := found_asking heq hk w es (i + 1) fun e he' => he e (by simp [he'])
      refine ⟨r, by simp [Instr.findAsking, hs, h1], ?_⟩
      rcases h2 with ⟨rfl, h2⟩ | ⟨j, e1, rfl, h3, h4, h5⟩
      · refine .inl ⟨rfl, fun e1 he1 y' hy' => ?_⟩
        rcases List.mem_cons.1 he1 with rfl | he1
        · rw [hall y' hy', hq]
        · exact h2 e1 he1 y' hy'
      · refine .inr ⟨j + 1, e1, by rw [Nat.add_assoc, Nat.add_comm 1 j], by simpa using h3, h4, fun i' e' hi' he1 y' hy' => ?_⟩
        cases i' with
        | zero => simp at he1; subst he1; rw [hall y' hy', hq]
        | succ i' => exact h5 i' e' (by omega) (by simpa using he1) y' hy'

def cellEq : Value → Value → Bool
  | .int _ a, .int _ b => decide (a = b)
  | .bool a, .bool b => decide (a = b)
  | .string a, .string b => decide (a = b)
  | _, _ => false
/-- a cell of a plain type -/
def Typed (t : Ty) (v : Value) : Prop := ∃ x : t.V, v = scV t x
def TypedL : List Ty → List Value → Prop
  | [], vs => vs = []
  | t :: ts, vs => ∃ v r, vs = v :: r ∧ Typed t v ∧ TypedL ts r
theorem scal_plainD {d : TypeDesc} {t : Ty} (h : PlainD t d) : scal t = true := by cases t <;> first | rfl | exact h.elim
theorem cell_part {T : TypeId} {t : Ty} {d : TypeDesc} (h : PlainD t d) (hu : P.underlying T = some d) {cs : Array Value} {i : Nat} {v : Value} (hv : cs[i]? = some v) (w : World) : (part T cs i).run P w = .ok v w := by
  cases t with
  | int k => cases h; simp [part, isAgg, run_underlying hu, hv]
  | bool => cases h; simp [part, isAgg, run_underlying hu, hv]
  | str => cases h; simp [part, isAgg, run_underlying hu, hv]
  | _ => exact h.elim
theorem cell_equal {T : TypeId} {t : Ty} {d : TypeDesc} (h : PlainD t d) (hu : P.underlying T = some d) {u v : Value} (hx : Typed t u) (hy : Typed t v) (n : Nat) (w : World) : (Op.equalIn (n + 1) T u v).run P w = .ok (cellEq u v) w := by
  obtain ⟨x, rfl⟩ := hx
  obtain ⟨y, rfl⟩ := hy
  cases t with
  | int k =>
    cases h; rw [show scV (.int k) x = .int k x from rfl, show scV (.int k) y = .int k y from rfl, run_equalIn_int w n T k k x y hu]; rfl
  | bool => cases h; rw [show scV .bool x = .bool x from rfl, show scV .bool y = .bool y from rfl, run_equalIn_bool' w n T x y hu]; cases x <;> cases y <;> rfl
  | str =>
    cases h; rw [show scV .str x = .string x from rfl, show scV .str y = .string y from rfl, run_equalIn_string w n T x y hu, ← beq_toListBytes, str_beq]; rfl
  | _ => exact h.elim
def cellsEq : List Value → List Value → Bool
  | [], [] => true
  | x :: xs, y :: ys => cellEq x y && cellsEq xs ys
  | _, _ => false
theorem cellsEq_append : ∀ {a c : List Value} (b d : List Value), a.length = c.length → cellsEq (a ++ b) (c ++ d) = (cellsEq a c && cellsEq b d)
  | [], [], b, d, h => by simp [cellsEq]
  | [], _ :: _, b, d, h => by simp at h
  | _ :: _, [], b, d, h => by simp at h
  | x :: a, y :: c, b, d, h => by
    simp only [List.cons_append, cellsEq]
    rw [cellsEq_append b d (by simpa using h), Bool.and_assoc]
theorem scal_eq {t : Ty} (h : scal t = true) (x y : t.V) : cellEq (scV t x) (scV t y) = keyEq t x y := by
  cases t <;> first | rfl | cases h
theorem scal_inj {t : Ty} (h : scal t = true) {x y : t.V} (he : keyEq t x y = true) : x = y := by
  cases t with
  | int k => simpa [keyEq] using he
  | bool => simpa [keyEq] using he
  | str => simpa [keyEq] using he
  | _ => cases h
theorem scal_bits {t : Ty} (h : scal t = true) (x : t.V) (n : Nat) : Instr.sameBits n (scV t x) (scV t x) = true := by
  cases t with
  | int k => cases n <;> simp [scV, Instr.sameBits]
  | bool => cases n <;> simp [scV, Instr.sameBits]
  | str => cases n <;> simp [scV, Instr.sameBits, str_beq]
  | _ => cases h
theorem typedL_append : ∀ {a : List Ty} {u : List Value} {b : List Ty} {v : List Value}, TypedL a u → TypedL b v → TypedL (a ++ b) (u ++ v)
  | [], u, b, v, h, h' => by simp only [TypedL] at h; subst h; exact h'
  | t :: a, u, b, v, ⟨x, r, e, h1, h2⟩, h' => by
    subst e
    exact ⟨x, r ++ v, rfl, h1, typedL_append h2 h'⟩
theorem flat_facts : ∀ (t : Ty), (∀ s ∈ flatT t, scal s = true) → (∀ x : t.V, TypedL (flatT t) (flatV t x)) ∧ (∀ x : t.V, (flatV t x).length = (flatT t).length) ∧ (∀ x y : t.V, cellsEq (flatV t x) (flatV t y) = keyEq t x y) ∧
    (∀ x y : t.V, keyEq t x y = true → x = y) ∧ (∀ x : t.V, ∀ v ∈ flatV t x, Instr.sameBits 9999 v v = true) ∧ (∀ (S : CellSet) (w : World) (cs : List Value) (x : t.V), Rd S w t cs x → cs = flatV t x)
  | .pair a b, h => by
    simp only [flatT, List.mem_append] at h
    obtain ⟨a1, a2, a3, a4, a5, a6⟩ := flat_facts a fun s hs => h s (.inl hs)
    obtain ⟨b1, b2, b3, b4, b5, b6⟩ := flat_facts b fun s hs => h s (.inr hs)
    refine ⟨fun x => typedL_append (a1 x.1) (b1 x.2), fun x => ?_, fun x y => ?_, fun x y he => ?_, fun x v hv => ?_, fun S w cs x hr => ?_⟩
    · simp only [flatV, flatT, List.length_append, a2, b2]
    · simp only [flatV, keyEq]
      rw [cellsEq_append _ _ (by rw [a2, a2]), a3, b3]
    · simp only [keyEq, Bool.and_eq_true] at he
      exact Prod.ext (a4 _ _ he.1) (b4 _ _ he.2)
    · simp only [flatV, List.mem_append] at hv
      exact hv.elim (a5 _ v) (b5 _ v)
    · obtain ⟨c1, d1, rfl, h1, h2⟩ := hr
      simp only [flatV]
      rw [a6 S w c1 x.1 h1, b6 S w d1 x.2 h2]
  | .int k, h => ⟨fun x => ⟨_, [], rfl, ⟨x, rfl⟩, rfl⟩, fun x => rfl, fun x y => by simp only [flatV, cellsEq, Bool.and_true]; exact scal_eq rfl x y, fun x y he => scal_inj rfl he, fun x v hv => by simp only [flatV, List.mem_singleton] at hv; subst hv; exact scal_bits rfl x _, fun S w cs x hr => hr⟩
  | .bool, h => ⟨fun x => ⟨_, [], rfl, ⟨x, rfl⟩, rfl⟩, fun x => rfl, fun x y => by simp only [flatV, cellsEq, Bool.and_true]; exact scal_eq rfl x y, fun x y he => scal_inj rfl he, fun x v hv => by simp only [flatV, List.mem_singleton] at hv; subst hv; exact scal_bits rfl x _, fun S w cs x hr => hr⟩
  | .str, h => ⟨fun x => ⟨_, [], rfl, ⟨x, rfl⟩, rfl⟩, fun x => rfl, fun x y => by simp only [flatV, cellsEq, Bool.and_true]; exact scal_eq rfl x y, fun x y he => scal_inj rfl he, fun x v hv => by simp only [flatV, List.mem_singleton] at hv; subst hv; exact scal_bits rfl x _, fun S w cs x hr => hr⟩
  | .unit, h => by have := h .unit (by simp [flatT]); cases this
  | .sl t, h => by have := h (.sl t) (by simp [flatT]); cases this
  | .arr n t, h => by have := h (.arr n t) (by simp [flatT]); cases this

/-- the fields of a key: the types of the cells from a place on -/
def FieldsAt (P : Program) : List Field → Nat → List Ty → Prop
  | [], _, ts => ts = []
  | f :: fl, i, ts => ∃ t r, ts = t :: r ∧ f.offset = i ∧ (f.name ≠ "_" ∧ ∃ d, P.underlying f.type = some d ∧ PlainD t d) ∧ FieldsAt P fl (i + 1) r
theorem fieldsK_spec (hE : EnvOk P c) : ∀ (fl : List Field) (i : Nat) (ts : List Ty), (∀ f ∈ fl, f.name ≠ "_") → fieldsK c (fl.map (·.type)) (fl.map (·.offset)) i ts = true → FieldsAt P fl i ts
  | [], i, [], _, _ => rfl
  | [], i, _ :: _, _, h => by simp [fieldsK] at h
  | f :: fl, i, [], _, h => by simp [fieldsK] at h
  | f :: fl, i, t :: ts, hn, h => by
    simp only [List.map_cons, fieldsK, Bool.and_eq_true] at h
    obtain ⟨⟨h1, h2⟩, h3⟩ := h
    refine ⟨t, ts, rfl, Nat.eq_of_beq_eq_true h1, ⟨hn f (by simp), ?_⟩, fieldsK_spec hE fl (i + 1) ts (fun g hg => hn g (by simp [hg])) h3⟩
    split at h2
    · rename_i fe hfe
      exact plainD_of (hE.te _ fe hfe) (of_decide_eq_true h2)
    · cases h2
theorem typed_get : ∀ {ts : List Ty} {pre us : List Value} {t : Ty}, TypedL (t :: ts) us → ∃ v r, us = v :: r ∧ Typed t v ∧ TypedL ts r ∧ (pre ++ us).toArray[pre.length]? = some v
  | ts, pre, us, t, ⟨v, r, e, h1, h2⟩ => by subst e; exact ⟨v, r, rfl, h1, h2, by simp⟩
theorem fields_equal (n : Nat) (w : World) : ∀ (fl : List Field) (ts : List Ty) (p q us vs : List Value), p.length = q.length → FieldsAt P fl p.length ts → TypedL ts us → TypedL ts vs →
    (Op.eqFields (n + 1) (p ++ us).toArray (q ++ vs).toArray fl).run P w = .ok (cellsEq us vs) w
  | [], ts, p, q, us, vs, hl, hf, hu, hv => by
    simp only [FieldsAt] at hf; subst hf
    simp only [TypedL] at hu hv; subst hu; subst hv
    simp [Op.eqFields, cellsEq]
  | f :: fl, ts, p, q, us, vs, hl, ⟨t, r, e, ho, ⟨hn, d, hd1, hd2⟩, hf⟩, hu, hv => by
    subst e
    obtain ⟨u, us', rfl, u1, u2, u3⟩ := typed_get (pre := p) hu
    obtain ⟨v, vs', rfl, v1, v2, v3⟩ := typed_get (pre := q) hv
    have ih := fields_equal n w fl r (p ++ [u]) (q ++ [v]) us' vs' (by simp [hl]) (by simpa using hf) u2 v2
    simp only [List.append_assoc, List.singleton_append] at ih
    have e1 := cell_part hd2 hd1 (i := f.offset) (by rw [ho]; exact u3) w
    have e2 := cell_part hd2 hd1 (i := f.offset) (by rw [ho, hl]; exact v3) w
    have e3 := cell_equal hd2 hd1 u1 v1 n w
    simp only [Op.eqFields, if_pos hn, Sem.run_bind, e1, e2, e3, Result.andThen_ok, Sem.run_ite, Sem.run_pure, ih, cellsEq]
    cases cellEq u v <;> simp
theorem fields_check (e : Bool) (n : Nat) (w : World) : ∀ (fl : List Field) (ts : List Ty) (p us : List Value), FieldsAt P fl p.length ts → TypedL ts us →
    (forIn (m := Sem) fl PUnit.unit fun f _ => do
      if f.name ≠ "_" then Instr.checkKey e (n + 1) f.type (← part f.type (p ++ us).toArray f.offset)
      pure (ForInStep.yield PUnit.unit)).run P w = .ok PUnit.unit w
  | [], ts, p, us, hf, hu => by simp
  | f :: fl, ts, p, us, ⟨t, r, e', ho, ⟨hn, d, hd1, hd2⟩, hf⟩, hu => by
    subst e'
    obtain ⟨u, us', rfl, u1, u2, u3⟩ := typed_get (pre := p) hu
    have ih := fields_check e n w fl r (p ++ [u]) us' (by simpa using hf) u2
    simp only [List.append_assoc, List.singleton_append] at ih
    have e1 := cell_part hd2 hd1 (i := f.offset) (by rw [ho]; exact u3) w
    have e2 := plain_checkKey hd2 hd1 e n u w
    simp only [List.forIn_cons, Sem.run_bind, hn, ne_eq, not_false_eq_true, if_true, Result.andThen_ok, e1, e2, Sem.run_pure]
    exact ih
theorem bits_all : ∀ (l : List Value), (∀ v ∈ l, Instr.sameBits 9999 v v = true) → ((l.zip l).all fun x => match x with | (x, y) => Instr.sameBits 9999 x y) = true
  | [], _ => rfl
  | v :: l, h => by simp only [List.zip_cons_cons, List.all_cons, h v (by simp), bits_all l fun u hu => h u (by simp [hu]), Bool.and_self]
theorem bits_agg {cs : Array Value} (h : ∀ v ∈ cs.toList, Instr.sameBits 9999 v v = true) : Instr.sameBits 10000 (.agg cs) (.agg cs) = true := by
  have := bits_all cs.toList h
  simp only [Instr.sameBits, beq_self_eq_true, Bool.true_and]
  exact this
theorem struct_law {k : TypeId} {fields : Array Field} (hu : P.underlying k = some (.struct fields)) (hst : P.stoodInHeld k = false) {a b : Ty} (hf : FieldsAt P fields.toList 0 (flatT (.pair a b))) (hsc : ∀ s ∈ flatT (.pair a b), scal s = true) : KeyLaw P k (.pair a b) := by
  obtain ⟨f1, f2, f3, f4, f5, f6⟩ := flat_facts (.pair a b) hsc
  have hfo : P.fieldsOf k = fields := by unfold Program.fieldsOf; rw [hu]
  have heq : ∀ (x y : (Ty.pair a b).V) (u v : Value) (w : World), plainV (.pair a b) x = some u → plainV (.pair a b) y = some v → (Op.equal k u v).run P w = .ok (keyEq (.pair a b) x y) w := by
    intro x y u v w hx hy
    simp only [plainV, Option.some.injEq] at hx hy
    subst hx; subst hy
    have := fields_equal (P := P) 9998 w fields.toList (flatT (.pair a b)) [] [] (flatV (.pair a b) x) (flatV (.pair a b) y) rfl hf (f1 x) (f1 y)
    rw [f3] at this
    show (Op.equalIn (9999 + 1) k _ _).run P w = _
    rw [run_equalIn_struct w 9999 k _ _ (by rw [hfo]; exact hu) hst, hfo]
    exact this
  have hwide : (match P.underlying k with | some (.array _ _) | some (.struct _) => true | _ => false) = true := by rw [hu]
  refine ⟨?_, ?_, ?_, ?_⟩
  · intro e x v w hx
    simp only [plainV, Option.some.injEq] at hx
    subst hx
    have := fields_check (P := P) e 9998 w fields.toList (flatT (.pair a b)) [] (flatV (.pair a b) x) hf (f1 x)
    simp only [List.nil_append, List.length_nil] at this
    show (Instr.checkKey e (9999 + 1) k _).run P w = _
    unfold Instr.checkKey
    simp only [Sem.run_bind, run_underlying hu, Result.andThen_ok]
    rw [← Array.forIn_toList]
    simp only [this, Result.andThen_ok, Sem.run_pure]
  · intro x v hx
    simp only [plainV, Option.some.injEq] at hx
    subst hx
    exact bits_agg (by simpa using f5 x)
  · intro x y u v hx hy he
    rw [f4 x y he] at hx; rw [hx] at hy; exact Option.some.inj hy
  · intro x kv es w hx he
    obtain ⟨r, h1, h2⟩ := found_asking heq hx w es 0 he
    refine ⟨r, by rw [run_findKey_eq w hwide]; exact h1, ?_⟩
    rcases h2 with h2 | ⟨j, e, rfl, h3⟩
    · exact .inl h2
    · exact .inr ⟨j, e, by rw [Nat.zero_add], h3⟩

/-! keys that are arrays -/
theorem typed_map {t : Ty} (h : scal t = true) : ∀ (xs : List t.V), ∀ v ∈ xs.map (scV t), Typed t v
  | [], v, hv => by simp at hv
  | x :: xs, v, hv => by
    rcases List.mem_cons.1 hv with rfl | hv
    · exact ⟨x, rfl⟩
    · exact typed_map h xs v hv
theorem list_eq {t : Ty} (h : scal t = true) : ∀ (xs ys : List t.V), cellsEq (xs.map (scV t)) (ys.map (scV t)) = listEq (keyEq t) xs ys
  | [], [] => rfl
  | [], _ :: _ => rfl
  | _ :: _, [] => rfl
  | x :: xs, y :: ys => by simp only [List.map_cons, cellsEq, listEq, scal_eq h, list_eq h xs ys]
theorem list_inj {t : Ty} (h : scal t = true) : ∀ (xs ys : List t.V), listEq (keyEq t) xs ys = true → xs = ys
  | [], [], _ => rfl
  | [], _ :: _, he => by cases he
  | _ :: _, [], he => by cases he
  | x :: xs, y :: ys, he => by
    simp only [listEq, Bool.and_eq_true] at he
    rw [scal_inj h he.1, list_inj h xs ys he.2]
theorem items_equal {T : TypeId} {t : Ty} {d : TypeDesc} (h : PlainD t d) (hu : P.underlying T = some d) (h1 : P.cellsOf T = 1) (n : Nat) (w : World) : ∀ (us vs p q : List Value), p.length = q.length → us.length = vs.length → (∀ v ∈ us, Typed t v) → (∀ v ∈ vs, Typed t v) →
    (Op.eqItems (n + 1) T (P.cellsOf T) (p ++ us).toArray (q ++ vs).toArray (List.range' p.length us.length)).run P w = .ok (cellsEq us vs) w
  | [], [], p, q, hl, hl', hx, hy => by simp [Op.eqItems, cellsEq]
  | [], _ :: _, _, _, _, hl', _, _ => by simp at hl'
  | _ :: _, [], _, _, _, hl', _, _ => by simp at hl'
  | u :: us, v :: vs, p, q, hl, hl', hx, hy => by
    have ih := items_equal h hu h1 n w us vs (p ++ [u]) (q ++ [v]) (by simp [hl]) (by simpa using hl') (fun z hz => hx z (by simp [hz])) (fun z hz => hy z (by simp [hz]))
    simp only [List.append_assoc, List.singleton_append, List.length_append, List.length_singleton] at ih
    have e1 := cell_part h hu (cs := (p ++ u :: us).toArray) (i := p.length * P.cellsOf T) (v := u) (by rw [h1]; simp) w
    have e2 := cell_part h hu (cs := (q ++ v :: vs).toArray) (i := p.length * P.cellsOf T) (v := v) (by rw [h1, hl]; simp) w
    have e3 := cell_equal h hu (hx u (by simp)) (hy v (by simp)) n w
    simp only [List.length_cons, List.range'_succ, Op.eqItems, Sem.run_bind, e1, e2, e3, Result.andThen_ok, Sem.run_ite, Sem.run_pure, ih, cellsEq]
    cases cellEq u v <;> simp
theorem items_check {T : TypeId} {t : Ty} {d : TypeDesc} (h : PlainD t d) (hu : P.underlying T = some d) (h1 : P.cellsOf T = 1) {i : TypeInfo} (hi : P.info? T = some i) (e : Bool) (n : Nat) (w : World) : ∀ (us p : List Value), 
    (forIn (m := Sem) (List.range' p.length us.length) PUnit.unit fun i _ => do
      Instr.checkKey e (n + 1) T (← part T (p ++ us).toArray (i * (← sizeOf T)))
      pure (ForInStep.yield PUnit.unit)).run P w = .ok PUnit.unit w
  | [], p => by simp
  | u :: us, p => by
    have ih := items_check h hu h1 hi e n w us (p ++ [u])
    simp only [List.append_assoc, List.singleton_append, List.length_append, List.length_singleton] at ih
    have e1 := cell_part h hu (cs := (p ++ u :: us).toArray) (i := p.length * P.cellsOf T) (v := u) (by rw [h1]; simp) w
    have e2 := plain_checkKey h hu e n u w
    simp only [List.length_cons, List.range'_succ, List.forIn_cons, Sem.run_bind, run_sizeOf w hi, Result.andThen_ok, e1, e2, Sem.run_pure]
    exact ih
theorem array_law {k e : TypeId} {n : Nat} {t : Ty} {d : TypeDesc} (hu : P.underlying k = some (.array n e)) (h : PlainD t d) (hd : P.underlying e = some d) {i : TypeInfo} (hi : P.info? e = some i) (h1 : P.cellsOf e = 1) : KeyLaw P k (.arr n t) := by
  have hsc := scal_plainD h
  have hpv : ∀ (x : List t.V) (u : Value), plainV (.arr n t) x = some u → x.length = n ∧ u = .agg (x.map (scV t)).toArray := by
    intro x u hx
    simp only [plainV] at hx
    split at hx
    · rename_i hl; simp only [Option.some.injEq] at hx; exact ⟨hl, hx.symm⟩
    · cases hx
  have heq : ∀ (x y : (Ty.arr n t).V) (u v : Value) (w : World), plainV (.arr n t) x = some u → plainV (.arr n t) y = some v → (Op.equal k u v).run P w = .ok (keyEq (.arr n t) x y) w := by
    intro x y u v w hx hy
    obtain ⟨l1, rfl⟩ := hpv x u hx
    obtain ⟨l2, rfl⟩ := hpv y v hy
    have := items_equal (P := P) h hd h1 9998 w (x.map (scV t)) (y.map (scV t)) [] [] rfl (by simp [l1, l2]) (typed_map hsc x) (typed_map hsc y)
    simp only [List.nil_append, List.length_nil, List.length_map] at this
    rw [l1] at this
    show (Op.equalIn (9999 + 1) k _ _).run P w = _
    rw [run_equalIn_array w 9999 _ _ hu hi, List.range_eq_range', this, list_eq hsc]
    rfl
  have hwide : (match P.underlying k with | some (.array _ _) | some (.struct _) => true | _ => false) = true := by rw [hu]
  refine ⟨?_, ?_, ?_, ?_⟩
  · intro e' x v w hx
    obtain ⟨l1, rfl⟩ := hpv x v hx
    have := items_check (P := P) h hd h1 hi e' 9998 w (x.map (scV t)) []
    simp only [List.nil_append, List.length_nil, List.length_map] at this
    rw [l1] at this
    show (Instr.checkKey e' (9999 + 1) k _).run P w = _
    unfold Instr.checkKey
    simp only [Sem.run_bind, run_underlying hu, Result.andThen_ok]
    simp only [Std.Legacy.Range.forIn_eq_forIn_range', Std.Legacy.Range.size, Nat.sub_zero, Nat.add_one_sub_one, Nat.div_one]
    simp only [this, Result.andThen_ok, Sem.run_pure]
  · intro x v hx
    obtain ⟨l1, rfl⟩ := hpv x v hx
    refine bits_agg fun v hv => ?_
    simp only [List.mem_map] at hv
    obtain ⟨y, _, rfl⟩ := hv
    exact scal_bits hsc y _
  · intro x y u v hx hy he
    rw [list_inj hsc x y he] at hx; rw [hx] at hy; exact Option.some.inj hy
  · intro x kv es w hx he
    obtain ⟨r, h1, h2⟩ := found_asking heq hx w es 0 he
    refine ⟨r, by rw [run_findKey_eq w hwide]; exact h1, ?_⟩
    rcases h2 with h2 | ⟨j, e, rfl, h3⟩
    · exact .inl h2
    · exact .inr ⟨j, e, by rw [Nat.zero_add], h3⟩

/-- entries in memory and told ones -/
abbrev EntR (t u : Ty) (es : List MapEntry) (m : List (t.V × u.V)) : Prop := es.map (fun x => (some x.key, some x.val)) = m.map fun x => (plainV t x.1, plainV u x.2)
theorem ent_keys {t u : Ty} : ∀ {es : List MapEntry} {m : List (t.V × u.V)}, EntR t u es m → ∀ e ∈ es, ∃ y : t.V, plainV t y = some e.key
  | [], _, _, e, he => by cases he
  | x :: es, [], h, _, _ => by simp [EntR] at h
  | x :: es, p :: m, h, e, he => by
    simp only [EntR, List.map_cons, List.cons.injEq, Prod.mk.injEq] at h
    rcases List.mem_cons.1 he with rfl | he
    · exact ⟨p.1, h.1.1.symm⟩
    · exact ent_keys (m := m) h.2 e he
theorem ent_none {t u : Ty} {key : t.V} {kv : Value} (hk : plainV t key = some kv) (z : u.V) : ∀ {es : List MapEntry} {m : List (t.V × u.V)}, EntR t u es m → (∀ e ∈ es, ∀ y, plainV t y = some e.key → keyEq t key y = false) →
    mget t z key m = (z, false) ∧ ∀ y vy ck, plainV u y = some vy → EntR t u (es ++ [{ key := kv, val := vy, born := ck }]) (mput t key y m)
  | [], [], _, _ => ⟨rfl, fun y vy ck hy => by simp [EntR, mput, hk, hy]⟩
  | [], p :: m, h, _ => by simp [EntR] at h
  | e :: es, [], h, _ => by simp [EntR] at h
  | e :: es, p :: m, h, hn => by
    simp only [EntR, List.map_cons, List.cons.injEq, Prod.mk.injEq] at h
    obtain ⟨⟨h1, h2⟩, h3⟩ := h
    have hq := hn e (by simp) p.1 h1.symm
    obtain ⟨i1, i2⟩ := ent_none hk z (es := es) (m := m) h3 fun e he => hn e (by simp [he])
    refine ⟨by simp only [mget, hq, cond_false]; exact i1, fun y vy ck hy => ?_⟩
    have := i2 y vy ck hy
    simp only [EntR, mput, hq, cond_false, List.cons_append, List.map_cons, h1, h2] at this ⊢
    rw [this]
theorem ent_some {t u : Ty} {key : t.V} {kv : Value} (hk : plainV t key = some kv) (z : u.V) : ∀ {es : List MapEntry} {m : List (t.V × u.V)} {j : Nat} {e : MapEntry}, EntR t u es m → es[j]? = some e → (∀ y, plainV t y = some e.key → keyEq t key y = true) →
    (∀ i e', i < j → es[i]? = some e' → ∀ y, plainV t y = some e'.key → keyEq t key y = false) → kv = e.key →
    (mget t z key m).2 = true ∧ plainV u (mget t z key m).1 = some e.val ∧ ∀ y vy, plainV u y = some vy → EntR t u (es.modify j fun e => { e with key := kv, val := vy }) (mput t key y m)
  | [], _, j, e, _, he, _, _, _ => by simp at he
  | x :: es, [], _, _, h, _, _, _, _ => by simp [EntR] at h
  | x :: es, p :: m, 0, e, h, he, ht, hn, hkv => by
    simp only [List.getElem?_cons_zero, Option.some.injEq] at he
    subst he
    simp only [EntR, List.map_cons, List.cons.injEq, Prod.mk.injEq] at h
    obtain ⟨⟨h1, h2⟩, h3⟩ := h
    have hq := ht p.1 h1.symm
    refine ⟨by simp only [mget, hq, cond_true], by simp only [mget, hq, cond_true]; exact h2.symm, fun y vy hy => ?_⟩
    simp only [EntR, mput, hq, cond_true, List.modify_zero_cons, List.map_cons, hy, h3]
    rw [← h1, hkv]
  | x :: es, p :: m, j + 1, e, h, he, ht, hn, hkv => by
    simp only [EntR, List.map_cons, List.cons.injEq, Prod.mk.injEq] at h
    obtain ⟨⟨h1, h2⟩, h3⟩ := h
    have hq := hn 0 x (by omega) rfl p.1 h1.symm
    obtain ⟨i1, i2, i3⟩ := ent_some hk z (es := es) (m := m) (j := j) (e := e) h3 (by simpa using he) ht (fun i e' hi he' => hn (i + 1) e' (by omega) (by simpa using he')) hkv
    refine ⟨by simp only [mget, hq, cond_false]; exact i1, by simp only [mget, hq, cond_false]; exact i2, fun y vy hy => ?_⟩
    have := i3 y vy hy
    simp only [EntR, mput, hq, cond_false, List.modify_succ_cons, List.map_cons, h1, h2] at this ⊢
    rw [this]
/-- the search for a key, told -/
theorem find_ok {k : TypeId} {t u : Ty} (hL : KeyLaw P k t) (z : u.V) {key : t.V} {kv : Value} (hk : plainV t key = some kv) {es : List MapEntry} {m : List (t.V × u.V)} (hm : EntR t u es m) (w : World) :
    (∃ j v e, (Instr.findKey k kv es).run P w = .ok (some (j, v)) w ∧ es[j]? = some e ∧ e.key = kv ∧ (mget t z key m).2 = true ∧ plainV u (mget t z key m).1 = some v ∧
      ∀ y vy, plainV u y = some vy → EntR t u (es.modify j fun e => { e with key := kv, val := vy }) (mput t key y m)) ∨
    ((Instr.findKey k kv es).run P w = .ok none w ∧ mget t z key m = (z, false) ∧ ∀ y vy ck, plainV u y = some vy → EntR t u (es ++ [{ key := kv, val := vy, born := ck }]) (mput t key y m)) := by
  have hks := ent_keys hm
  obtain ⟨r, h1, h2⟩ := hL.find key kv es w hk hks
  rcases h2 with ⟨rfl, h2⟩ | ⟨j, e, rfl, h3, h4, h5⟩
  · obtain ⟨i1, i2⟩ := ent_none hk z hm h2
    exact .inr ⟨h1, i1, i2⟩
  · obtain ⟨y, hy⟩ := hks e (List.mem_of_getElem? h3)
    have hkv := hL.inj key y kv e.key hk hy (h4 y hy)
    obtain ⟨i1, i2, i3⟩ := ent_some hk z hm h3 h4 h5 hkv
    exact .inl ⟨j, e.val, e, h1, h3, hkv.symm, i1, i2, i3⟩

theorem flat_key {t : Ty} (h : aggT t = true) {p : RP} {a : AV} {v : Value} {y : t.V} (hr : RelAV p a v) (hk : keyOfAV t a = some y) : ∃ cs : Array Value, v = .agg cs ∧ Rd p.S p.w t cs.toList y := by
  unfold keyOfAV at hk
  split at hk
  · rw [h] at hk; cases hk
  · rename_i ls
    rw [h] at hk
    simp only [cond_true, Option.bind_eq_some_iff] at hk
    obtain ⟨⟨x, r⟩, h1, h2⟩ := hk
    cases r with
    | cons _ _ => simp at h2
    | nil =>
      simp only [List.isEmpty_nil, cond_true, Option.some.injEq] at h2
      subst h2
      obtain ⟨cs, rfl, h3⟩ := hr
      obtain ⟨c1, d1, e, h4, h5⟩ := toTy_rel t h1 h3
      simp only [RelLs] at h5; subst h5
      rw [List.append_nil] at e
      exact ⟨cs, rfl, by rw [e]; exact h4⟩
  · cases hk
theorem plain_key {t : Ty} {d : TypeDesc} (hp : PlainD t d) {p : RP} {a : AV} {v : Value} {y : t.V} (hr : RelAV p a v) (hk : keyOfAV t a = some y) : plainV t y = some v := by
  have ha : aggT t = false := by cases t <;> first | rfl | exact hp.elim
  unfold keyOfAV at hk
  split at hk
  · rw [ha] at hk
    simp only [cond_false] at hk
    obtain ⟨rfl, rfl⟩ := castV_eq hk
    rcases hr with hr | hr
    · cases hr
    · unfold RelL at hr; exact plain_rd hp hr
  · rw [ha] at hk; cases hk
  · cases hk
theorem arr_rd {S : CellSet} {w : World} {t : Ty} (h : scal t = true) : ∀ (xs : List t.V) (cs : List Value), RdsOf (Rd S w t) cs xs → cs = xs.map (scV t)
  | [], cs, hr => hr
  | x :: xs, cs, ⟨c1, d1, e, h1, h2⟩ => by
    subst e
    rw [arr_rd h xs d1 h2]
    have : c1 = [scV t x] := by cases t <;> first | exact h1 | cases h
    rw [this]; rfl
theorem key_ok (hE : EnvOk P c) {k : TypeId} {ke : TE} (hk : lkp c.te k = some ke) {t : Ty} (h : keyTy c ke = some t) : KeyLaw P k t ∧ ∀ (p : RP) (a : AV) (v : Value) (y : t.V), RelAV p a v → keyOfAV t a = some y → plainV t y = some v := by
  have hT := hE.te k ke hk
  have hun := hT.under
  have plain : tyOfD ke.d = some t → KeyLaw P k t ∧ ∀ (p : RP) (a : AV) (v : Value) (y : t.V), RelAV p a v → keyOfAV t a = some y → plainV t y = some v := by
    intro h
    obtain ⟨d, hd1, hd2⟩ := plainD_of hT h
    exact ⟨plain_law hd2 hd1, fun p a v y hr hy => plain_key hd2 hr hy⟩
  unfold keyTy at h
  split at h
  · rename_i fs hd
    rw [hd] at hun
    simp only [Option.bind_eq_some_iff] at h
    obtain ⟨t', _, h⟩ := h
    split at h
    · rename_i a b hq
      cases hf : fieldsK c fs ke.offs 0 (flatT (.pair a b)) with
      | false => rw [hf] at h; cases h
      | true =>
        rw [hf] at h
        simp only [cond_true, Option.some.injEq] at h
        subst h
        obtain ⟨fields, hu1, hf1, ho, hfs, hst, _⟩ := hun
        rw [← hf1, ← ho] at hf
        have hfa := fieldsK_spec hE fields.toList 0 _ (fun f hf => (hfs f hf).choose_spec.2.2) hf
        have hsc : ∀ s ∈ flatT (.pair a b), scal s = true := by
          have : ∀ (fl : List Field) (i : Nat) (ts : List Ty), FieldsAt P fl i ts → ∀ s ∈ ts, scal s = true := by
            intro fl
            induction fl with
            | nil => intro i ts h s hs; simp only [FieldsAt] at h; subst h; cases hs
            | cons f fl ih =>
              rintro i ts ⟨t, r, rfl, _, ⟨_, d, _, hd2⟩, h⟩ s hs
              rcases List.mem_cons.1 hs with rfl | hs
              · exact scal_plainD hd2
              · exact ih (i + 1) r h s hs
          exact this _ _ _ hfa
        refine ⟨struct_law hu1 hst hfa hsc, fun p av v y hr hy => ?_⟩
        obtain ⟨cs, rfl, hrd⟩ := flat_key (t := .pair a b) rfl hr hy
        have := (flat_facts (.pair a b) hsc).2.2.2.2.2 _ _ _ _ hrd
        simp only [plainV, ← this]
    · cases h
  · rename_i n e hd
    rw [hd] at hun
    simp only [Option.bind_eq_some_iff, Option.map_eq_some_iff] at h
    obtain ⟨ee, he, t', ht', rfl⟩ := h
    have hTe := hE.te e ee he
    obtain ⟨d, hd1, hd2⟩ := plainD_of hTe ht'
    obtain ⟨i, zv, hi, hisz, _⟩ := hTe.info
    have h1 : P.cellsOf e = 1 := by
      have := hTe.one (plain_agg ht')
      unfold Program.cellsOf; rw [hi]; simp only [Option.map_some, Option.getD_some]; omega
    refine ⟨array_law hun hd2 hd1 hi h1, fun p av v y hr hy => ?_⟩
    obtain ⟨cs, rfl, hrd⟩ := flat_key (t := .arr n t') rfl hr hy
    obtain ⟨hl, hrd⟩ := hrd
    have := arr_rd (scal_plainD hd2) y cs.toList hrd
    simp only [plainV]
    rw [if_pos hl, ← this]
  · exact plain h

theorem mapOk_spec (hE : EnvOk P c) {T k e : TypeId} {t u : Ty} (h : mapOk c T k e t u = true) :
    P.underlying T = some (.map k e) ∧ (KeyLaw P k t ∧ ∀ (p : RP) (a : AV) (v : Value) (y : t.V), RelAV p a v → keyOfAV t a = some y → plainV t y = some v) ∧ (∃ ve d, lkp c.te e = some ve ∧ tyOfD ve.d = some u ∧ P.underlying e = some d ∧ PlainD u d) := by
  unfold mapOk at h
  split at h
  · rename_i te ke ve h1 h2 h3
    simp only [Bool.and_eq_true, decide_eq_true_eq] at h
    obtain ⟨⟨h4, h5⟩, h6⟩ := h
    split at h4
    · rename_i k' e' hd
      simp only [Bool.and_eq_true, Nat.beq_eq] at h4
      obtain ⟨rfl, rfl⟩ := h4
      have hu := (hE.te T te h1).under
      rw [hd] at hu
      obtain ⟨d', hd3, hd4⟩ := plainD_of (hE.te _ ve h3) h6
      exact ⟨hu, key_ok hE h2 h5, ⟨ve, d', h3, h6, hd3, hd4⟩⟩
    · cases h4
  · cases h

theorem map_val {p : RP} {n : Nat} {k e : TypeId} {t u : Ty} {m : List (t.V × u.V)} (hO : p.O n = some (.mp k e t u m)) {v : Value} (h : RelAV p (.one (.mp n)) v) : ∃ b, (p.β n).1 = some (b, 0) ∧ v = .map (some b) := by
  rcases h with h | h
  · cases h
  unfold RelL at h
  rw [hO] at h
  obtain ⟨b, hb, hv⟩ := h
  simp only [List.cons.injEq, and_true] at hv
  exact ⟨b, hb, hv⟩
theorem plain_val {p : RP} {t t' : Ty} {x : t'.V} {y : t.V} {v : Value} (h : RelAV p (.one (.v t' x)) v) (hc : castV t' t x = some y) {d : TypeDesc} (hp : PlainD t d) : plainV t y = some v := by
  obtain ⟨rfl, rfl⟩ := castV_eq hc
  rcases h with h | h
  · cases h
  · unfold RelL at h; exact plain_rd hp h

theorem zero_plain (hE : EnvOk P c) {e : TypeId} {ve : TE} (hl : lkp c.te e = some ve) {u : Ty} (ht : tyOfD ve.d = some u) {d : TypeDesc} (hp : PlainD u d) {z : u.V × List Lf} (hz : toTy u ve.z = some z) (w : World) :
    ∃ v, (zeroValue e).run P w = .ok v w ∧ plainV u z.1 = some v := by
  have hT := hE.te e ve hl
  obtain ⟨i, zv, hi, hisz, hib, hiz, hzr, hz1, hzs⟩ := hT.info
  have ha := plain_agg ht
  have hcells := cells_one (hT.zone ha i zv hi hiz)
  have hsz : u.size = 1 := by cases u <;> first | rfl | exact hp.elim
  have h1 := toTy_rel (p := ⟨fun _ _ => False, w, fun _ _ => False, fun _ => (none, 0), fun _ => none⟩) u (x := z.1) (r := z.2) (by rw [hz]) (hzr _)
  refine ⟨zv, by simp [zeroValue, typeInfo, hi, hiz, Sem.run_bind, Result.andThen_ok], ?_⟩
  rw [hcells] at h1
  obtain ⟨c1, d1, hcd, h2, h3⟩ := h1
  have : c1 = [zv] := by
    have hone : c1.length = 1 := by
      cases u <;> first | exact hp.elim | (unfold Rd at h2; rw [h2]; rfl)
    rcases c1 with _ | ⟨a, _ | ⟨b, r⟩⟩ <;> simp_all
  subst this
  exact plain_rd hp h2

theorem makeMap_ok (hE : EnvOk P c) (hc : Core F S β O w) {T k e : TypeId} {t u : Ty} (ho : o.op = .makeMap T none) {d : Nat} (hnew : O d = none)
    (hn : After F S β O (over [(d, .mp k e t u [])] O) w (.one (.mp d)) o a next) : o.wp P a w next Q := by
  obtain ⟨h1, h2⟩ := hc.new hnew (.mp k e t u []) (by intro e t xs hh; cases hh) (.map #[] 0) 0 (by
    intro q hq hb hw
    exact ⟨w.heap.size, #[], 0, by rw [hb], hw, rfl, rfl, by intro j e he; simp at he⟩)
  refine wp_value (v := .map (some w.heap.size)) (w' := { w with heap := w.heap.push (.map #[] 0) }) ?_ ?_
  · simp [execOp, ho, Instr.makeMap]
  · rw [over_cons, over_nil] at hn
    refine hn _ _ _ _ h1 h2 (.inr ?_)
    unfold RelL
    simp only [Fr.rp, upd_same]
    exact ⟨w.heap.size, rfl, rfl⟩

theorem lookup_ok (hE : EnvOk P c) (hc : Core F S β O w) (hs : Slots (F.rp S β O w) (lkp σ) a.tmps) {T : TypeId} {X Y : Operand} {ok : Bool} (ho : o.op = .lookup T X Y ok) {n : Nat} (hx : gv c σ X 0 = some (.one (.mp n)))
    {y : AV} (hy : gv c σ Y 0 = some y) {k e : TypeId} {t u : Ty} {m : List (t.V × u.V)} (hO : O n = some (.mp k e t u m)) (hm : mapOk c T k e t u = true) {key : t.V} (hkey : keyOfAV t y = some key)
    {ve : TE} (hve : lkp c.te e = some ve) {z : u.V × List Lf} (hz : toTy u ve.z = some z)
    (hn1 : ok = true → After F S β O (over [] O) w (.tup [(false, [.v u (mget t z.1 key m).1]), (false, [.v .bool (mget t z.1 key m).2])]) o a next)
    (hn2 : ok = false → After F S β O (over [] O) w (.one (.v u (mget t z.1 key m).1)) o a next) : o.wp P a w next Q := by
  obtain ⟨hT, ⟨hL, hav⟩, ⟨ve', d', hv1, hv2, hv3, hv4⟩⟩ := mapOk_spec hE hm
  rw [hve] at hv1; cases hv1
  obtain ⟨b, hb, hX⟩ := map_val (p := F.rp S β O w) hO (gv_rel hE hs hx)
  have hY := hav _ _ _ _ (gv_rel hE hs hy) hkey
  obtain ⟨b', es, clock, hb', hw, hent, hclk, hborn⟩ := hc.obj n _ hO
  rw [hb] at hb'; simp only [Option.some.injEq, Prod.mk.injEq, and_true] at hb'; subst hb'
  simp only [Fr.rp] at hb hw
  have hget : (getObj b).run P w = .ok (.map es clock) w := by simp [getObj, Sem.run, hw]
  have hck := hL.check es.isEmpty key (a.eval Y) w hY
  obtain ⟨zv, hzv, hzp⟩ := zero_plain hE hve hv2 hv4 hz w
  have key : ∃ v, (Instr.lookup T (a.eval X) (a.eval Y) ok).run P w = .ok (if ok then .tuple #[v, .bool (mget t z.1 key m).2] else v) w ∧ plainV u (mget t z.1 key m).1 = some v := by
    rcases find_ok hL z.1 hY hent w with ⟨j, v, e', q1, q2, q3, q4, q5, q6⟩ | ⟨q1, q2, q3⟩
    · refine ⟨v, ?_, q5⟩
      cases ok <;> simp [Instr.lookup, run_underlying hT, hX, hget, hck, q1, q4]
    · refine ⟨zv, ?_, by rw [q2]; exact hzp⟩
      cases ok <;> simp [Instr.lookup, run_underlying hT, hX, hget, hck, q1, q2, hzv]
  obtain ⟨v, h1, h2⟩ := key
  have hrd : ∀ p : RP, RelL p (.v u (mget t z.1 key m).1) [v] := fun p => by unfold RelL; exact plain_rd' hv4 h2
  cases ok with
  | true =>
    refine pure_ok hc (v := .tuple #[v, .bool (mget t z.1 key m).2]) (by simp [execOp, ho, h1]) ?_ (hn1 rfl)
    exact ⟨_, rfl, _, _, rfl, ⟨_, rfl, .inr (hrd _)⟩, _, _, rfl, ⟨_, rfl, .inr rfl⟩, rfl⟩
  | false =>
    refine pure_ok hc (v := v) (by simp [execOp, ho, h1]) ?_ (hn2 rfl)
    exact .inr (hrd _)

theorem mapUpd_ok (hE : EnvOk P c) (hc : Core F S β O w) (hs : Slots (F.rp S β O w) (lkp σ) a.tmps) {T : TypeId} {X Y V : Operand} (ho : o.op = .mapUpdate T X Y V ∨ o.op = .insert T X Y V) {n : Nat} (hx : gv c σ X 0 = some (.one (.mp n)))
    {y : AV} (hy : gv c σ Y 0 = some y) {u' : Ty} {v : u'.V} (hv : gv c σ V 0 = some (.one (.v u' v))) {k e : TypeId} {t u : Ty} {m : List (t.V × u.V)} (hO : O n = some (.mp k e t u m)) (hm : mapOk c T k e t u = true) {key : t.V} (hkey : keyOfAV t y = some key)
    {val : u.V} (hval : castV u' u v = some val) (hn : After F S β O (over [(n, .mp k e t u (mput t key val m))] O) w (.one .undef) o a next) : o.wp P a w next Q := by
  obtain ⟨hT, ⟨hL, hav⟩, ⟨ve', d', hv1, hv2, hv3, hv4⟩⟩ := mapOk_spec hE hm
  obtain ⟨b, hb, hX⟩ := map_val (p := F.rp S β O w) hO (gv_rel hE hs hx)
  have hY := hav _ _ _ _ (gv_rel hE hs hy) hkey
  have hV := plain_val (gv_rel hE hs hv) hval hv4
  obtain ⟨b', es, clock, hb', hw, hent, hclk, hborn⟩ := hc.obj n _ hO
  rw [hb] at hb'; simp only [Option.some.injEq, Prod.mk.injEq, and_true] at hb'; subst hb'
  simp only [Fr.rp] at hb hw
  have hget : (getObj b).run P w = .ok (.map es clock) w := by simp [getObj, Sem.run, hw]
  have hset : ∀ ob, (setObj b ob).run P w = .ok () { w with heap := w.heap.setIfInBounds b ob } := by intro ob; simp [setObj, Sem.run, hw]
  have hck := hL.check false key (a.eval Y) w hY
  have key : ∃ es' ck, (Instr.mapUpdate T (a.eval X) (a.eval Y) (a.eval V)).run P w = .ok () { w with heap := w.heap.setIfInBounds b (.map es' ck) } ∧ EntR t u es'.toList (mput t key val m) ∧ ck = es'.size ∧ (∀ (j : Nat) (e : MapEntry), es'[j]? = some e → e.born = j) := by
    rcases find_ok hL val hY hent w with ⟨j, v, e', q1, q2, q3, q4, q5, q6⟩ | ⟨q1, q2, q3⟩
    · refine ⟨es.modify j fun e => { e with key := a.eval Y, val := a.eval V }, clock, ?_, by rw [Array.toList_modify]; exact q6 val _ hV, by simpa using hclk, ?_⟩
      rotate_left
      · intro i e'' he
        rw [Array.getElem?_modify] at he
        split at he
        · simp only [Option.map_eq_some_iff] at he
          obtain ⟨e0, he0, rfl⟩ := he
          exact hborn i e0 he0
        · exact hborn i e'' he
      have hj : (((es[j]?).map (·.key)).getD (a.eval Y)) = a.eval Y := by
        have : es[j]? = some e' := by simpa using q2
        rw [this]; exact q3
      have hst : (Instr.keyThatStays (((es[j]?).map (·.key)).getD (a.eval Y)) (a.eval Y)).run P w = .ok (a.eval Y) w := by
        rw [hj]; simp [Instr.keyThatStays, hL.bits key _ hY]
      simp [Instr.mapUpdate, run_underlying hT, hX, hget, hck, q1, hst, hset]
    · refine ⟨es.push { key := a.eval Y, val := a.eval V, born := clock }, clock + 1, ?_, by rw [Array.toList_push]; exact q3 val _ clock hV, by simp [hclk], ?_⟩
      rotate_left
      · intro i e'' he
        rw [Array.getElem?_push] at he
        split at he
        · simp only [Option.some.injEq] at he; subst he; simp only; omega
        · exact hborn i e'' he
      simp [Instr.mapUpdate, run_underlying hT, hX, hget, hck, q1, hset]
  obtain ⟨es', ck, h1, h2, h3, h4⟩ := key
  obtain ⟨g1, g2⟩ := hc.writeObj hO rfl (o' := .mp k e t u (mput t key val m)) (.inr ⟨_, _, _, _, _, rfl⟩) rfl hb (by intro e t xs hh; cases hh) (by intro e t xs hh; cases hh) (.map es' ck) (by
    intro q _ hqb hqw
    refine ⟨b, es', ck, by rw [hqb]; exact hb, ?_, h2, h3, h4⟩
    rw [hqw]
    exact Array.getElem?_setIfInBounds_self_of_lt (Array.getElem?_eq_some_iff.1 hw).1)
  rw [over_cons, over_nil] at hn
  refine wp_skip' ?_ (hn _ _ _ _ g1 g2 (.inl rfl))
  rcases ho with ho | ho <;> simp [execOp, ho, h1]

theorem rd_scal {S : CellSet} {w : World} {t : Ty} (h : scal t = true) (x : t.V) : Rd S w t [scV t x] x := by
  cases t <;> first | rfl | cases h
theorem rds_scal {S : CellSet} {w : World} {t : Ty} (h : scal t = true) : ∀ xs : List t.V, RdsOf (Rd S w t) (xs.map (scV t)) xs
  | [] => rfl
  | x :: xs => ⟨[scV t x], xs.map (scV t), rfl, rd_scal h x, rds_scal h xs⟩
theorem flat_leaves {p : RP} : ∀ (t : Ty), (∀ s ∈ flatT t, scal s = true) → ∀ x : t.V, RelLs p (leaves t x) (flatV t x)
  | .pair a b, h, x => RelLs_append (flat_leaves a (fun s hs => h s (by simp [flatT, hs])) x.1) (flat_leaves b (fun s hs => h s (by simp [flatT, hs])) x.2)
  | .int k, _, x => ⟨[.int k x], [], rfl, rfl, rfl⟩
  | .bool, _, x => ⟨[.bool x], [], rfl, rfl, rfl⟩
  | .str, _, x => ⟨[.string x], [], rfl, rfl, rfl⟩
  | .unit, h, _ => by have := h .unit (by simp [flatT]); cases this
  | .sl t, h, _ => by have := h (.sl t) (by simp [flatT]); cases this
  | .arr n t, h, _ => by have := h (.arr n t) (by simp [flatT]); cases this

theorem mapRange_ok (hE : EnvOk P c) (hc : Core F S β O w) (hs : Slots (F.rp S β O w) (lkp σ) a.tmps) {T : TypeId} {X : Operand} (ho : o.op = .range T X) {n : Nat} (hx : gv c σ X 0 = some (.one (.mp n)))
    {k e : TypeId} {t u : Ty} {m : List (t.V × u.V)} (hO : O n = some (.mp k e t u m)) (hm : mapOk c T k e t u = true) {d : Nat} (hnew : O d = none)
    (hn : After F S β O (over [(d, .miter (.mp n) m.length [])] O) w (.one (.ref d 0)) o a next) : o.wp P a w next Q := by
  obtain ⟨hT, _⟩ := mapOk_spec hE hm
  obtain ⟨bm, hb, hX⟩ := map_val (p := F.rp S β O w) hO (gv_rel hE hs hx)
  obtain ⟨b', es, clock, hb', hw, hent, hclk, hborn⟩ := hc.obj n _ hO
  rw [hb] at hb'; simp only [Option.some.injEq, Prod.mk.injEq, and_true] at hb'; subst hb'
  simp only [Fr.rp] at hb hw
  have hlen : clock = m.length := by
    have := congrArg List.length hent
    simp at this; omega
  have hget : (getObj bm).run P w = .ok (.map es clock) w := by simp [getObj, Sem.run, hw]
  have hrel : RelL (F.rp S β O w) (.mp n) [.map (some bm)] := by
    unfold RelL
    rw [show (F.rp S β O w).O n = some (.mp k e t u m) from hO]
    exact ⟨bm, hb, rfl⟩
  obtain ⟨h1, h2⟩ := hc.new hnew (.miter (.mp n) m.length []) (by intro e t xs hh; cases hh) (.mapIter (some bm) clock #[] clock) 0 (by
    intro q hq hqb hqw
    refine ⟨w.heap.size, bm, by rw [hqb], ?_, RelL_le hq _ hrel⟩
    rw [hqw, hlen])
  refine wp_value (v := .pointer (some ⟨w.heap.size, 0, none⟩)) (w' := { w with heap := w.heap.push (.mapIter (some bm) clock #[] clock) }) ?_ ?_
  · simp [execOp, ho, Instr.range, run_underlying hT, hX, hget]
  · rw [over_cons, over_nil] at hn
    refine hn _ _ _ _ h1 h2 (.inr ?_)
    unfold RelL
    simp only [Fr.rp, upd_same]
    exact ⟨w.heap.size, rfl, rfl⟩

theorem plain_leaves {p : RP} {t : Ty} (h : plainK t = true) {x : t.V} {v : Value} (hx : plainV t x = some v) : RelVl p (aggT t, leaves t x) v := by
  cases t with
  | int k => simp only [plainV, Option.some.injEq] at hx; subst hx; exact ⟨_, rfl, .inr rfl⟩
  | bool => simp only [plainV, Option.some.injEq] at hx; subst hx; exact ⟨_, rfl, .inr rfl⟩
  | str => simp only [plainV, Option.some.injEq] at hx; subst hx; exact ⟨_, rfl, .inr rfl⟩
  | unit => cases hx
  | sl t => cases hx
  | arr n t =>
    simp only [plainV] at hx
    split at hx
    · rename_i hl
      simp only [Option.some.injEq] at hx; subst hx
      refine ⟨_, rfl, ?_⟩
      show RelLs p [.v (.arr n t) x] (List.map (scV t) x)
      refine ⟨List.map (scV t) x, [], by simp, ?_, rfl⟩
      show Rd p.S p.w (.arr n t) (List.map (scV t) x) x
      refine ⟨hl, ?_⟩
      exact rds_scal h x
    · cases hx
  | pair a b =>
    simp only [plainV, Option.some.injEq] at hx; subst hx
    refine ⟨_, rfl, ?_⟩
    show RelLs p (leaves (.pair a b) x) (flatV (.pair a b) x)
    exact flat_leaves (.pair a b) (by unfold plainK at h; exact List.all_eq_true.1 h) x

theorem scal_leaf {p : RP} {u : Ty} (hu : scal u = true) {x : u.V} {v : Value} (h : plainV u x = some v) : RelL p (.v u x) [v] := by
  unfold RelL
  cases u <;> first | (simp only [plainV, Option.some.injEq] at h; rw [← h]; rfl) | cases hu

theorem mapEntry_ok (hE : EnvOk P c) (hc : Core F S β O w) (hs : Slots (F.rp S β O w) (lkp σ) a.tmps) {X : Operand} (ho : o.op = .entry X) {n : Nat} (hx : gv c σ X 0 = some (.one (.ref n 0))) {m k : Nat} {seen : List Nat} (hO : O n = some (.miter (.mp m) k seen))
    {kT eT : TypeId} {t u : Ty} {l : List (t.V × u.V)} (hM : O m = some (.mp kT eT t u l)) (ht : plainK t = true) (hu : scal u = true) {e : t.V × u.V} (he : entryAt l k seen = some e)
    (hn : After F S β O (over [] O) w (.tup [(aggT t, leaves t e.1), (false, [.v u e.2])]) o a next) : o.wp P a w next Q := by
  obtain ⟨b, bm, h1, h2, h3⟩ := hc.obj n _ hO
  obtain ⟨bm', es, clock, h4, h5, hent, hclk, hborn⟩ := hc.obj m _ hM
  unfold RelL at h3
  rw [show (F.rp S β O w).O m = some (.mp kT eT t u l) from hM] at h3
  obtain ⟨bm2, h6, h7⟩ := h3
  simp only [List.cons.injEq, Value.map.injEq, Option.some.injEq, and_true] at h7
  subst h7
  rw [h4] at h6; simp only [Option.some.injEq, Prod.mk.injEq, and_true] at h6; subst h6
  simp only [Fr.rp] at h1 h2 h4 h5
  have hv := gv_rel hE hs hx
  rcases hv with hv | hv
  · cases hv
  unfold RelL at hv
  rw [show (F.rp S β O w).O n = some (.miter (.mp m) k seen) from hO] at hv
  obtain ⟨b', hb', hv⟩ := hv
  simp only [Fr.rp] at hb'
  rw [h1] at hb'; simp only [Option.some.injEq, Prod.mk.injEq, and_true] at hb'; subst hb'
  simp only [List.cons.injEq, and_true] at hv
  unfold entryAt at he
  split at he
  case isFalse => cases he
  rename_i hlen
  simp only [Option.bind_eq_some_iff] at he
  obtain ⟨j, hj, hlj⟩ := he
  have hel : es.size = l.length := by
    have := congrArg List.length hent
    simpa using this
  have hcl : clock = k := by omega
  subst hcl
  obtain ⟨ys, rfl⟩ : ∃ ys, seen = ys ++ [j] := ⟨seen.dropLast, by
    have hne : seen ≠ [] := by rintro rfl; simp at hj
    rw [List.getLast?_eq_some_getLast hne] at hj
    simp only [Option.some.injEq] at hj
    rw [← hj]; exact (List.dropLast_concat_getLast hne).symm⟩
  have hjl : j < es.size := by
    have := (List.getElem?_eq_some_iff.1 hlj).1
    omega
  have hje : es[j]? = some es[j] := Array.getElem?_eq_getElem hjl
  have hbj := hborn j _ hje
  have hnod : (es.toList.map (·.born)).Nodup := by
    have : es.toList.map (·.born) = List.range es.size := by
      apply List.ext_getElem?
      intro i
      by_cases hi : i < es.size
      · have := hborn i _ (Array.getElem?_eq_getElem hi)
        simp [hi, this]
      · simp [hi]
    rw [this]; exact List.nodup_range
  have hkv : some es[j].key = plainV t e.1 ∧ some es[j].val = plainV u e.2 := by
    have := congrArg (fun q => q[j]?) hent
    have hj2 : es.toList[j]? = some es[j] := by simp
    simp only [List.getElem?_map, hj2, hlj, Option.map_some, Option.some.injEq, Prod.mk.injEq] at this
    exact this
  have hrun := run_entry_at (P := P) w b bm' clock ys.toArray es clock es[j] (by rw [h2, hbj]; simp) h5 (by simp) hnod
  refine pure_ok hc (v := .tuple #[es[j].key, es[j].val]) (by simp [execOp, ho, hv, hrun]) ?_ hn
  exact ⟨_, rfl, _, _, rfl, plain_leaves ht hkv.1.symm, _, _, rfl, ⟨_, rfl, .inr (scal_leaf hu hkv.2.symm)⟩, rfl⟩

theorem mfind_none {t u : Ty} {key : t.V} : ∀ {es : List MapEntry} {m : List (t.V × u.V)}, EntR t u es m → (∀ e ∈ es, ∀ y, plainV t y = some e.key → keyEq t key y = false) → mfind t key m = m.length
  | [], [], _, _ => rfl
  | [], p :: m, h, _ => by simp [EntR] at h
  | e :: es, [], h, _ => by simp [EntR] at h
  | e :: es, p :: m, h, hn => by
    simp only [EntR, List.map_cons, List.cons.injEq, Prod.mk.injEq] at h
    obtain ⟨⟨h1, h2⟩, h3⟩ := h
    have hq := hn e (by simp) p.1 h1.symm
    simp only [mfind, hq, cond_false, List.length_cons]
    rw [mfind_none (m := m) h3 fun e he => hn e (by simp [he])]
theorem mfind_some {t u : Ty} {key : t.V} : ∀ {es : List MapEntry} {m : List (t.V × u.V)} {j : Nat} {e : MapEntry}, EntR t u es m → es[j]? = some e → (∀ y, plainV t y = some e.key → keyEq t key y = true) →
    (∀ i e', i < j → es[i]? = some e' → ∀ y, plainV t y = some e'.key → keyEq t key y = false) → mfind t key m = j
  | [], _, j, e, _, he, _, _ => by simp at he
  | x :: es, [], _, _, h, _, _, _ => by simp [EntR] at h
  | x :: es, p :: m, 0, e, h, he, ht, hn => by
    simp only [List.getElem?_cons_zero, Option.some.injEq] at he
    subst he
    simp only [EntR, List.map_cons, List.cons.injEq, Prod.mk.injEq] at h
    have hq := ht p.1 h.1.1.symm
    simp only [mfind, hq, cond_true]
  | x :: es, p :: m, j + 1, e, h, he, ht, hn => by
    simp only [EntR, List.map_cons, List.cons.injEq, Prod.mk.injEq] at h
    have hq := hn 0 x (by omega) rfl p.1 h.1.1.symm
    simp only [mfind, hq, cond_false]
    rw [mfind_some (m := m) (j := j) (e := e) h.2 (by simpa using he) ht (fun i e' hi he' => hn (i + 1) e' (by omega) (by simpa using he'))]

theorem find2_ok {k : TypeId} {t u : Ty} (hL : KeyLaw P k t) (z : u.V) {key : t.V} {kv : Value} (hk : plainV t key = some kv) {es : List MapEntry} {m : List (t.V × u.V)} (hm : EntR t u es m) (w : World) :
    (∃ j v e, (Instr.findKey k kv es).run P w = .ok (some (j, v)) w ∧ es[j]? = some e ∧ e.key = kv ∧ e.val = v ∧ mfind t key m = j ∧ plainV u (mget t z key m).1 = some v ∧
      ∀ y vy, plainV u y = some vy → EntR t u (es.modify j fun e => { e with key := kv, val := vy }) (mput t key y m)) ∨
    ((Instr.findKey k kv es).run P w = .ok none w ∧ mget t z key m = (z, false) ∧ mfind t key m = m.length ∧ ∀ y vy ck, plainV u y = some vy → EntR t u (es ++ [{ key := kv, val := vy, born := ck }]) (mput t key y m)) := by
  have hks := ent_keys hm
  obtain ⟨r, h1, h2⟩ := hL.find key kv es w hk hks
  rcases h2 with ⟨rfl, h2⟩ | ⟨j, e, rfl, h3, h4, h5⟩
  · obtain ⟨i1, i2⟩ := ent_none hk z hm h2
    exact .inr ⟨h1, i1, mfind_none hm h2, i2⟩
  · obtain ⟨y, hy⟩ := hks e (List.mem_of_getElem? h3)
    have hkv := hL.inj key y kv e.key hk hy (h4 y hy)
    obtain ⟨i1, i2, i3⟩ := ent_some hk z hm h3 h4 h5 hkv
    exact .inl ⟨j, e.val, e, h1, h3, hkv.symm, rfl, mfind_some hm h3 h4 h5, i2, i3⟩

theorem modify_congr' {α : Type} {xs : List α} {i : Nat} {f g : α → α} {x : α} (h : xs[i]? = some x) (hf : f x = g x) : xs.modify i f = xs.modify i g := by
  apply List.ext_getElem?
  intro j
  rw [List.getElem?_modify, List.getElem?_modify]
  by_cases hj : i = j
  · subst hj; simp [h, hf]
  · simp [hj]

theorem mapPlace_ok (hE : EnvOk P c) (hc : Core F S β O w) (hs : Slots (F.rp S β O w) (lkp σ) a.tmps) {T : TypeId} {X Y : Operand} (ho : o.op = .mapEntry T X Y) {n : Nat} (hx : gv c σ X 0 = some (.one (.mp n)))
    {y : AV} (hy : gv c σ Y 0 = some y) {k e : TypeId} {t u : Ty} {m : List (t.V × u.V)} (hO : O n = some (.mp k e t u m)) (hm : mapOk c T k e t u = true) {key : t.V} (hkey : keyOfAV t y = some key)
    {ve : TE} (hve : lkp c.te e = some ve) {z : u.V × List Lf} (hz : toTy u ve.z = some z)
    (hn : After F S β O (over [(n, .mp k e t u (mput t key (mget t z.1 key m).1 m))] O) w (.tup [(false, [.v u (mget t z.1 key m).1]), (false, [.v (.int .i64) (mfind t key m : Int)])]) o a next) : o.wp P a w next Q := by
  obtain ⟨hT, ⟨hL, hav⟩, ⟨ve', d', hv1, hv2, hv3, hv4⟩⟩ := mapOk_spec hE hm
  rw [hve] at hv1; cases hv1
  obtain ⟨b, hb, hX⟩ := map_val (p := F.rp S β O w) hO (gv_rel hE hs hx)
  have hY := hav _ _ _ _ (gv_rel hE hs hy) hkey
  obtain ⟨b', es, clock, hb', hw, hent, hclk, hborn⟩ := hc.obj n _ hO
  rw [hb] at hb'; simp only [Option.some.injEq, Prod.mk.injEq, and_true] at hb'; subst hb'
  simp only [Fr.rp] at hb hw
  have hget : (getObj b).run P w = .ok (.map es clock) w := by simp [getObj, Sem.run, hw]
  have hset : ∀ ob, (setObj b ob).run P w = .ok () { w with heap := w.heap.setIfInBounds b ob } := by intro ob; simp [setObj, Sem.run, hw]
  have hck := hL.check false key (a.eval Y) w hY
  obtain ⟨zv, hzv, hzp⟩ := zero_plain hE hve hv2 hv4 hz w
  have hmlen : es.size = m.length := by
    have := congrArg List.length hent
    simpa using this
  have key : ∃ es' ck v, (Instr.mapEntry T (a.eval X) (a.eval Y)).run P w = .ok (.tuple #[v, .int .i64 (mfind t key m : Int)]) { w with heap := w.heap.setIfInBounds b (.map es' ck) } ∧ plainV u (mget t z.1 key m).1 = some v ∧
      EntR t u es'.toList (mput t key (mget t z.1 key m).1 m) ∧ ck = es'.size ∧ (∀ (j : Nat) (e : MapEntry), es'[j]? = some e → e.born = j) := by
    rcases find2_ok hL z.1 hY hent w with ⟨j, v, e', q1, q2, q3, q4, q5, q6, q7⟩ | ⟨q1, q2, q3, q4⟩
    · have hje : es[j]? = some e' := by simpa using q2
      have hbj := hborn j e' hje
      refine ⟨es.modify j fun e => { e with key := a.eval Y }, clock, v, ?_, q6, ?_, by simpa using hclk, ?_⟩
      · have hj : (((es[j]?).map (·.key)).getD (a.eval Y)) = a.eval Y := by rw [hje]; exact q3
        have hst : (Instr.keyThatStays (((es[j]?).map (·.key)).getD (a.eval Y)) (a.eval Y)).run P w = .ok (a.eval Y) w := by
          rw [hj]; simp [Instr.keyThatStays, hL.bits key _ hY]
        have hbn : (((es[j]?).map (·.born)).getD 0) = j := by rw [hje]; exact hbj
        simp [Instr.mapEntry, run_underlying hT, hX, hget, hck, q1, hst, hset, goInt, q5]
        rw [hje]; simp [hbj]
      · rw [Array.toList_modify]
        have := q7 _ _ q6
        rw [← modify_congr' (f := fun e => { e with key := a.eval Y }) q2 (by rw [← q4])] at this
        exact this
      · intro i e'' he
        rw [Array.getElem?_modify] at he
        split at he
        · simp only [Option.map_eq_some_iff] at he
          obtain ⟨e0, he0, rfl⟩ := he
          exact hborn i e0 he0
        · exact hborn i e'' he
    · refine ⟨es.push { key := a.eval Y, val := zv, born := clock }, clock + 1, zv, ?_, by rw [q2]; exact hzp, ?_, by simp [hclk], ?_⟩
      · have hcm : (clock : Int) = (mfind t key m : Int) := by rw [q3, hclk, hmlen]
        simp [Instr.mapEntry, run_underlying hT, hX, hget, hck, q1, hset, hzv, goInt, hcm]
      · rw [Array.toList_push, q2]
        exact q4 _ _ clock hzp
      · intro i e'' he
        rw [Array.getElem?_push] at he
        split at he
        · simp only [Option.some.injEq] at he; subst he; simp only; omega
        · exact hborn i e'' he
  obtain ⟨es', ck, v, h1, h2, h3, h4, h5⟩ := key
  obtain ⟨g1, g2⟩ := hc.writeObj hO rfl (o' := .mp k e t u (mput t _ (mget t z.1 _ m).1 m)) (.inr ⟨_, _, _, _, _, rfl⟩) rfl hb (by intro e t xs hh; cases hh) (by intro e t xs hh; cases hh) (.map es' ck) (by
    intro q _ hqb hqw
    refine ⟨b, es', ck, by rw [hqb]; exact hb, ?_, h3, h4, h5⟩
    rw [hqw]
    exact Array.getElem?_setIfInBounds_self_of_lt (Array.getElem?_eq_some_iff.1 hw).1)
  rw [over_cons, over_nil] at hn
  refine wp_value (v := .tuple #[v, .int .i64 (mfind t _ m : Int)]) (by simp [execOp, ho, h1]; rfl) (hn _ _ _ _ g1 g2 ⟨_, rfl, ?_⟩)
  exact ⟨_, _, rfl, ⟨_, rfl, .inr (by unfold RelL; exact plain_rd' hv4 h2)⟩, _, _, rfl, ⟨_, rfl, .inr rfl⟩, rfl⟩

theorem mapStore_ok (hE : EnvOk P c) (hc : Core F S β O w) (hs : Slots (F.rp S β O w) (lkp σ) a.tmps) {T : TypeId} {X Y V : Operand} (ho : o.op = .entryStore T X Y V) {n : Nat} (hx : gv c σ X 0 = some (.one (.mp n)))
    {j : Int} (hy : gv c σ Y 0 = some (.one (.v (.int .i64) j))) {u' : Ty} {v : u'.V} (hv : gv c σ V 0 = some (.one (.v u' v))) {k e : TypeId} {t u : Ty} {m : List (t.V × u.V)} (hO : O n = some (.mp k e t u m)) (hm : mapOk c T k e t u = true)
    {val : u.V} (hval : castV u' u v = some val) {m' : List (t.V × u.V)} (hst : mstore m j val = some m') (hn : After F S β O (over [(n, .mp k e t u m')] O) w (.one .undef) o a next) : o.wp P a w next Q := by
  obtain ⟨hT, ⟨hL, hav⟩, ⟨ve', d', hv1, hv2, hv3, hv4⟩⟩ := mapOk_spec hE hm
  obtain ⟨b, hb, hX⟩ := map_val (p := F.rp S β O w) hO (gv_rel hE hs hx)
  have hY := rel_int (gv_rel hE hs hy)
  have hV := plain_val (gv_rel hE hs hv) hval hv4
  obtain ⟨b', es, clock, hb', hw, hent, hclk, hborn⟩ := hc.obj n _ hO
  rw [hb] at hb'; simp only [Option.some.injEq, Prod.mk.injEq, and_true] at hb'; subst hb'
  simp only [Fr.rp] at hb hw
  have hget : (getObj b).run P w = .ok (.map es clock) w := by simp [getObj, Sem.run, hw]
  have hset : ∀ ob, (setObj b ob).run P w = .ok () { w with heap := w.heap.setIfInBounds b ob } := by intro ob; simp [setObj, Sem.run, hw]
  unfold mstore at hst
  split at hst
  case isFalse => cases hst
  rename_i hj0
  simp only [Option.map_eq_some_iff] at hst
  obtain ⟨p, hp, rfl⟩ := hst
  obtain ⟨i, rfl⟩ : ∃ i : Nat, j = i := ⟨j.toNat, by omega⟩
  simp only [Int.toNat_natCast] at hp hn ⊢
  have hel : es.size = m.length := by
    have := congrArg List.length hent
    simpa using this
  have hil : i < es.size := by
    have := (List.getElem?_eq_some_iff.1 hp).1
    omega
  have hfi : es.findIdx? (fun e => (e.born : Int) == (i : Int)) = some i := by
    rw [Array.findIdx?_eq_some_iff_getElem]
    refine ⟨hil, ?_, ?_⟩
    · have := hborn i _ (Array.getElem?_eq_getElem hil)
      simp [this]
    · intro q hq
      have := hborn q _ (Array.getElem?_eq_getElem (by omega))
      simp [this]; omega
  have h1 : (Instr.entryStore T (a.eval X) (a.eval Y) (a.eval V)).run P w = .ok () { w with heap := w.heap.setIfInBounds b (.map (es.modify i fun e => { e with val := a.eval V }) clock) } := by
    simp [Instr.entryStore, hX, hY, hget, hset, asInt, asIntOf, hfi]
  have hent' : EntR t u (es.modify i fun e => { e with val := a.eval V }).toList (m.set i (p.1, val)) := by
    rw [Array.toList_modify]
    apply List.ext_getElem?
    intro q
    have hq := congrArg (fun l => l[q]?) hent
    simp only [List.getElem?_map, List.getElem?_modify, List.getElem?_set] at hq ⊢
    by_cases e1 : i = q
    · subst e1
      have : i < m.length := by omega
      rw [hp] at hq
      simp only [Option.map_some] at hq
      cases he : es.toList[i]? with
      | none => rw [he] at hq; simp at hq
      | some e0 =>
        rw [he] at hq
        simp only [Option.map_some, Option.some.injEq, Prod.mk.injEq] at hq
        simp [this, hq.1, hV]
    · simp [e1]; simpa using hq
  obtain ⟨g1, g2⟩ := hc.writeObj hO rfl (o' := .mp k e t u (m.set i (p.1, val))) (.inr ⟨_, _, _, _, _, rfl⟩) rfl hb (by intro e t xs hh; cases hh) (by intro e t xs hh; cases hh) (.map (es.modify i fun e => { e with val := a.eval V }) clock) (by
    intro q _ hqb hqw
    refine ⟨b, _, clock, by rw [hqb]; exact hb, ?_, hent', by simpa using hclk, ?_⟩
    · rw [hqw]
      exact Array.getElem?_setIfInBounds_self_of_lt (Array.getElem?_eq_some_iff.1 hw).1
    · intro q e'' he
      rw [Array.getElem?_modify] at he
      split at he
      · simp only [Option.map_eq_some_iff] at he
        obtain ⟨e0, he0, rfl⟩ := he
        exact hborn q e0 he0
      · exact hborn q e'' he)
  rw [over_cons, over_nil] at hn
  refine wp_skip' ?_ (hn _ _ _ _ g1 g2 (.inl rfl))
  simp [execOp, ho, h1]
end
end Go.Proofs.R

