/- The evaluator of the model's code over told values, and that what it tells is so: part 2. No condition. -/
import Derived.Test.YtpkckffbdojegaaMachine0
import Derived.Laws.CopyRow
import Derived.Still
set_option linter.unusedVariables false
set_option linter.unusedSimpArgs false
namespace Go.Proofs.R
open Go
section
variable {P : Program} {c : Ctx}
variable {F : Fr} {S : CellSet} {β : Nat → Place} {O : Nat → Option AObj} {w : World} {a : Act} {σ : List (Nat × AV)} {o : Oper} {next : Act → World → Prop} {Q : Exit → Act → World → Prop}

/-- the run of append where there is room -/
theorem append_room {T U : TypeId} {e : TypeId} (hT : P.underlying T = some (.slice e)) (hU : (∃ eu, P.underlying U = some (.slice eu)) ∨ P.underlying U = some .string) {sz : Nat} (hs : ∀ w, (sizeOf e).run P w = .ok sz w) {ty : TypeId}
    {base : Option Addr} {n k cap : Nat} {x : Value} (hx : ∀ w : World, (Builtin.lenOf x).run P w = .ok k w) {cs : Array Value} {w w' : World} (hf : (Builtin.firstCells sz k x).run P w = .ok cs w) (hle : n + k ≤ cap)
    (hst : ∀ ad, base = some ad → (storeCells (ad.add (n * sz)) cs.toList).run P w = .ok () w') (hno : base = none → w' = w) :
    (Builtin.append_ #[T, U] ty #[.slice base n cap, x]).run P w = .ok (.slice base (n + k) cap) w' := by
  cases base with
  | none =>
    have := hno rfl; subst this
    rcases hU with ⟨eu, hU⟩ | hU <;> simp [Builtin.append_, run_underlying hT, run_underlying hU, hs, hx, hle, hf]
  | some ad =>
    have h1 := hst ad rfl
    rcases hU with ⟨eu, hU⟩ | hU <;> simp [Builtin.append_, run_underlying hT, run_underlying hU, hs, hx, hle, hf, h1]

/-- the run of append where a new row is made -/
theorem append_grow {T U : TypeId} {e : TypeId} (hT : P.underlying T = some (.slice e)) (hU : (∃ eu, P.underlying U = some (.slice eu)) ∨ P.underlying U = some .string) {i : TypeInfo} (hi : P.info? e = some i) {z : Value} (hz : i.zero = some z) (hb : i.bytes ≤ 8192) {ty : TypeId}
    {base : Option Addr} {n k cap : Nat} {x : Value} (hx : ∀ w : World, (Builtin.lenOf x).run P w = .ok k w) {cs ds : Array Value} {w : World}
    (hf : ∀ w' : World, w'.heap = w.heap → (Builtin.firstCells i.size k x).run P w' = .ok cs w') (ho : ∀ w' : World, w'.heap = w.heap → (Builtin.firstCells i.size n (.slice base n cap)).run P w' = .ok ds w') (hgt : cap < n + k) (hle : n + k ≤ mostLen) :
    ∃ newCap, n + k ≤ newCap ∧ (Builtin.append_ #[T, U] ty #[.slice base n cap, x]).run P w =
      .ok (.slice (some ⟨w.heap.size, 0, none⟩) (n + k) newCap) { w with drawn := w.drawn + 1, heap := w.heap.push (.cells (ds ++ cs ++ Builtin.zeroCells z.cells (newCap - (n + k))) e) } := by
  unfold mostLen at hle
  have h1 : ¬ (n + k ≤ cap) := by omega
  have h2 : ¬ (((n + k : Nat) : Int) > IntKind.i64.max) := by
    have : IntKind.i64.max = 9223372036854775807 := by decide
    rw [this]; omega
  have h3 : ¬ (Builtin.nextslicecap (n + k) cap * i.bytes > 2 ^ 48) := by
    have := nextcap_le hgt
    have : Builtin.nextslicecap (n + k) cap * i.bytes ≤ (2 * (n + k)) * 8192 := Nat.mul_le_mul this hb
    omega
  refine ⟨(Question.appendCap (n + k) cap e).cut (w.tape w.drawn (Question.appendCap (n + k) cap e)), by simp [Question.cut], ?_⟩
  have h2' : ¬ ((9223372036854775807 : Int) < ((n : Int) + (k : Int))) := by omega
  rcases hU with ⟨eu, hU⟩ | hU
  all_goals
    simp only [Builtin.append_, run_underlying hT, run_underlying hU, sizeOf, typeInfo, hi, Sem.run_bind, Sem.run_pure, Result.andThen_ok, run_program, hx, h1, if_false, h3, zeroValue, hz,
      List.getElem?_toArray, List.getElem?_cons_zero, List.getElem?_cons_succ, Array.getElem?_toList, Sem.run_ite, h2, false_and, run_choose, Question.forced, Bool.false_eq_true, run_askRoom]
    rw [ho { w with drawn := w.drawn + 1 } rfl]
    simp only [Result.andThen_ok, Bool.not_false, if_true]
    rw [hf { w with drawn := w.drawn + 1 } rfl]
    simp [newRow]
    rfl

theorem zeroCells_size (z : Array Value) (n : Nat) : (Builtin.zeroCells z n).size = n * z.size := by simp [Builtin.zeroCells]
theorem zeroCells_one {z : Array Value} (h : ∀ v ∈ z.toList, v.oneCell' = true) (n : Nat) : ∀ v ∈ (Builtin.zeroCells z n).toList, v.oneCell' = true := by
  intro v hv
  simp only [Builtin.zeroCells, Array.toList_map, List.mem_map, Array.toList_range, List.mem_range] at hv
  obtain ⟨i, hi, rfl⟩ := hv
  have hz : 0 < z.size := by
    rcases Nat.eq_zero_or_pos z.size with h0 | h0
    · rw [h0] at hi; omega
    · exact h0
  have hlt : i % z.size < z.size := Nat.mod_lt _ hz
  rw [getElem!_pos z _ hlt]
  exact h _ (by simp)

theorem castV_len {t u : Ty} {x : List t.V} {y : List u.V} (h : castV (.sl t) (.sl u) x = some y) : ∃ e : t = u, e ▸ x = y := by
  obtain ⟨e, h1⟩ := castV_eq h
  cases e
  exact ⟨rfl, h1⟩

theorem grow_le {n : Nat} {u : Unit} (h : grow n = some u) : n ≤ mostLen := by
  unfold grow at h; split at h
  · assumption
  · cases h

/-- the cells of a row of the call's own -/
theorem row_src {p : RP} {n : Nat} {e : TypeId} {t : Ty} {xs : List t.V} {fz : Bool} (h : ObjR p n (.row e t xs fz)) :
    ∃ cs, RdsOf (Rd p.S p.w t) cs xs ∧ xs.length ≤ (p.β n).2 ∧ (∀ w' : World, w'.heap = p.w.heap → (Builtin.firstCells t.size xs.length (.slice (addrOf (p.β n).1) xs.length (p.β n).2)).run P w' = .ok cs.toArray w') := by
  rcases h with ⟨h1, rfl⟩ | ⟨b, o, arr, cs, rest, h1, h2, h3, h4, h5, _⟩
  · refine ⟨[], rfl, Nat.zero_le _, ?_⟩
    intro w' _
    rw [h1]
    simp [Builtin.firstCells, addrOf]
  · refine ⟨cs, h5, h3, ?_⟩
    intro w' hw
    have hc2 : ∀ j v, cs[j]? = some v → w'.cell? ((⟨b, o, none⟩ : Addr).add j) = some v := by
      intro j v hj
      have : (arr.toList.drop o)[j]? = some v := by
        rw [h4, List.getElem?_append_left (List.getElem?_eq_some_iff.1 hj).1]; exact hj
      rw [List.getElem?_drop] at this
      have h6 := arr_cells h2 (o + j) v this
      rw [add_at]
      have h7 : cellAt w' b (o + j) = cellAt p.w b (o + j) := cellAt_block (by rw [hw])
      rw [Nat.zero_add] at h6
      exact h7.trans h6
    have := run_loadCells_list (P := P) w' ⟨b, o, none⟩ cs hc2
    rw [RdsOf_len (fun _ _ => Rd_len t) h5] at this
    rw [h1]
    simp [Builtin.firstCells, addrOf, this]

theorem appendOp_run (hE : EnvOk P c) (hc : Core F S β O w) {lk : Nat → Option AObj} (hlk : ∀ n o, lk n = some o → O n = some o) {d : Nat} (hd : O (d * 8) = none) {T U : TypeId} (hU : (slOk c U || strOk c U) = true) {s x : Lf} {vs vx : Value}
    (hs : RelL (F.rp S β O w) s [vs]) (hx : RelL (F.rp S β O w) x [vx]) {av : AV} {u : Upd} (h : appendOp c lk d T s x two = some (av, u)) (ty : TypeId) :
    ∃ v w' S' β', (Builtin.append_ #[T, U] ty #[vs, vx]).run P w = .ok v w' ∧ Core F S' β' (over u O) w' ∧ (F.rp S β O w).le (F.rp S' β' (over u O) w') ∧ RelAV (F.rp S' β' (over u O) w') av v := by
  have hUu : (∃ eu, P.underlying U = some (.slice eu)) ∨ P.underlying U = some .string := by
    rcases Bool.or_eq_true_iff.1 hU with hU | hU
    · exact .inl (slOk_spec hE hU)
    · exact .inr (strOk_spec hE hU)
  unfold appendOp at h
  simp only [Option.bind_eq_some_iff] at h
  obtain ⟨te, hte, h⟩ := h
  split at h
  · rename_i e hde
    simp only [Option.bind_eq_some_iff] at h
    obtain ⟨ys, hys, h⟩ := h
    cases hel : eltOk c T ys.1 with
    | false => rw [hel] at h; cases h
    | true =>
      rw [hel] at h; simp only [cond_true] at h
      obtain ⟨e', ee, hTu, hee, hsz, hpos, te', hte', hde'⟩ := eltOk_spec hE hel
      rw [hte] at hte'; cases hte'
      rw [hde] at hde'; cases hde'
      obtain ⟨t0, ys⟩ := ys
      simp only at hsz hpos h
      obtain ⟨i, z, hi, hisz, hib, hiz, hzr, hz1, hzs⟩ := (hE.te e ee hee).info
      obtain ⟨cs, hvx, hrd, hfirst⟩ := src_cells (P := P) hlk hc.obj hx hys
      simp only [Fr.rp] at hrd hfirst hvx
      have hcl : cs.length = ys.length * t0.size := RdsOf_len (fun _ _ => Rd_len t0) hrd
      have hc1 : ∀ v ∈ cs, v.oneCell' = true := RdsOf_one (fun _ _ => Rd_one t0) hrd
      split at h
      · -- onto nil
        rename_i e1 t
        cases hb : Nat.beq e e1 with
        | false => rw [hb] at h; cases h
        | true =>
          rw [hb] at h
          simp only [cond_true, bindD, Option.bind_eq_some_iff, two, Option.some.injEq, Prod.mk.injEq] at h
          obtain ⟨zs, hzs1, _, hg, rfl, rfl⟩ := h
          obtain ⟨ec, hzs2⟩ := castV_len hzs1
          cases ec
          have hzs3 : ys = zs := hzs2
          subst hzs3
          simp only [RelL, List.cons.injEq, and_true] at hs
          subst hs
          have hgl := grow_le hg
          rcases Nat.eq_zero_or_pos ys.length with h0 | h0
          · have : ys = [] := List.eq_nil_of_length_eq_zero h0
            subst this
            obtain ⟨h1, h2⟩ := hc.newNil (e := e) (t := t0) hd
            refine ⟨.slice none 0 0, w, S, _, ?_, h1, h2, .inr ?_⟩
            · have := append_room (P := P) hTu hUu (sz := ee.sz) (fun w => sizeOf_run (hE.te e ee hee) w) (ty := ty) (base := none) (n := 0) (cap := 0) hvx (by rw [hsz]; exact hfirst w rfl) (by simp) (w' := w) (by intro ad hh; cases hh) (fun _ => rfl)
              simpa using this
            · unfold RelL; simp [Fr.rp, over, lkp_cons, upd_same, addrOf]
          · obtain ⟨nc, hnc, hrun⟩ := append_grow (P := P) hTu hUu hi hiz hib (ty := ty) (base := none) (n := 0) (cap := 0) hvx (cs := cs.toArray) (ds := #[]) (w := w)
              (fun w' hw => by rw [hisz, hsz]; exact hfirst w' hw) (fun w' _ => by simp [Builtin.firstCells]) (by omega) (by omega)
            obtain ⟨hcd, hld⟩ := hc.drawn (w.drawn + 1)
            obtain ⟨h1, h2⟩ := hcd.new hd (.row e t0 ys false) (by intro _ _ _ hh; cases hh) (.cells (#[] ++ cs.toArray ++ Builtin.zeroCells z.cells (nc - (0 + ys.length))) e) nc (by
              intro q hq hb hw
              refine .inr ⟨w.heap.size, 0, _, cs, (Builtin.zeroCells z.cells (nc - (0 + ys.length))).toList, by rw [hb], hw, by rw [hb]; simpa using hnc, by simp, ?_, ?_, by simp, ?_⟩
              · exact RdsOf_mono (fun _ _ => Rd_mono (fun b i hs => hq.S b i (hld.S b i hs)) (fun b i v hs hc => hq.cells b i v (.inl (hld.S b i hs)) (hld.cells b i v (.inl hs) hc)) t0) hrd
              · rw [hb]
                simp only [Array.size_append, List.size_toArray, List.length_nil, zeroCells_size, hcl, hzs, hsz]
                have : nc = ys.length + (nc - (0 + ys.length)) := by omega
                conv => lhs; rw [this]
                rw [Nat.add_mul]; omega
              · intro v hv
                simp only [Array.toList_append, List.toList_toArray, List.nil_append, List.mem_append] at hv
                rcases hv with hv | hv
                · exact hc1 v hv
                · exact zeroCells_one hz1 _ v hv)
            refine ⟨_, _, S, _, hrun, by rw [over_cons, over_nil]; exact h1, ?_, .inr ?_⟩
            · rw [over_cons, over_nil]
              exact le_trans_same hld h2 (fun n o o' ho ho' _ => by
                simp only [Fr.rp] at ho ⊢
                exact upd_ne _ _ _ _ (by rintro rfl; rw [hd] at ho; cases ho))
            · unfold RelL; simp [Fr.rp, over, lkp_cons, upd_same, addrOf]
      · -- onto a row
        rename_i n
        split at h
        · rename_i e1 t xs fz hln
          cases hb : Nat.beq e e1 with
          | false => rw [hb] at h; cases h
          | true =>
            rw [hb] at h
            simp only [cond_true, bindD, Option.bind_eq_some_iff, two, Option.some.injEq, Prod.mk.injEq] at h
            obtain ⟨zs, hzs1, _, hg, rfl, rfl⟩ := h
            obtain ⟨ec, hzs2⟩ := castV_len hzs1
            cases ec
            have hzs3 : ys = zs := hzs2
            subst hzs3
            obtain rfl := beq_sz hb
            have hO := hlk n _ hln
            have hobj := hc.obj n _ hO
            have hgl := grow_le hg
            unfold RelL at hs; simp only [Fr.rp] at hs; rw [hO] at hs
            simp only [List.cons.injEq, and_true] at hs
            subst hs
            have hnd : n ≠ d * 8 := by rintro rfl; rw [hd] at hO; cases hO
            have hOm : over [(n, AObj.dead), (d * 8, .row e t0 (xs ++ ys) fz)] O (d * 8) = some (.row e t0 (xs ++ ys) fz) := by simp [over, lkp_cons, Ne.symm hnd]
            by_cases hroom : xs.length + ys.length ≤ (β n).2
            · -- in place
              rcases hobj with ⟨h1, h2⟩ | ⟨b, off, arr, cx0, rest, h1, h2, h3, h4, h5, h6, h7, h8⟩
              · simp only [Fr.rp] at h1
                subst h2
                rw [h1] at hroom
                have hy0 : ys = [] := List.eq_nil_of_length_eq_zero (by simpa using hroom)
                subst hy0
                obtain ⟨S', h9, h10⟩ := hc.append hO hd (ys := ([] ++ [] : List t0.V)) (by simp) (pl := β n) (w' := w) rfl rfl rfl (Nat.le_refl _) (fun _ _ _ => rfl) (fun _ _ _ _ hh => hh) (.inl rfl) (e' := e) (by
                  intro q _ hb _
                  exact .inl ⟨by rw [hb]; exact h1, rfl⟩)
                refine ⟨.slice none 0 0, w, S', _, ?_, h9, h10, .inr ?_⟩
                · have := append_room (P := P) hTu hUu (sz := ee.sz) (fun w => sizeOf_run (hE.te e ee hee) w) (ty := ty) (base := none) (n := 0) (cap := 0) hvx (by rw [hsz]; exact hfirst w rfl) (by simp) (w' := w) (by intro ad hh; cases hh) (fun _ => rfl)
                  rw [h1]; simpa [addrOf] using this
                · unfold RelL; simp only [Fr.rp]; rw [hOm]; simp [upd_same, h1, addrOf]
              · simp only [Fr.rp] at h1 h2 h3 h5 h6
                have hxl : cx0.length = xs.length * t0.size := RdsOf_len (fun _ _ => Rd_len t0) h5
                have hle1 : off + xs.length * t0.size + ys.length * t0.size ≤ arr.size := by
                  have := Nat.mul_le_mul_right t0.size hroom
                  rw [Nat.add_mul] at this; omega
                have hst := run_storeCells_at (P := P) b (off + xs.length * t0.size) e cs 0 arr w h2 (by rw [hcl]; omega) hc1
                have hrest : rest.length = arr.size - (off + xs.length * t0.size) := by
                  have := congrArg List.length h4
                  simp only [List.length_drop, Array.length_toList, List.length_append] at this
                  omega
                have e1 : arr.toList.take (off + xs.length * t0.size + 0) = arr.toList.take off ++ cx0 := by
                  rw [Nat.add_zero, List.take_add, h4, ← hxl, List.take_left]
                have e2 : arr.toList.drop (off + xs.length * t0.size + 0 + cs.length) = rest.drop cs.length := by
                  rw [Nat.add_zero, Nat.add_assoc, ← List.drop_drop, h4, ← List.drop_drop, ← hxl, List.drop_left]
                rw [e1, e2] at hst
                have htl : (arr.toList.take off).length = off := by rw [List.length_take]; simp; omega
                obtain ⟨S', h9, h10⟩ := hc.append hO hd (ys := xs ++ ys) (by simp) (pl := β n) (w' := w.setRow b (arr.toList.take off ++ cx0 ++ cs ++ rest.drop cs.length).toArray) rfl rfl rfl (by simp)
                  (by intro k _ hk; exact setRow_other w b k _ (by rintro rfl; exact hk off h1))
                  (by
                    intro b' i v hsb hcl'
                    by_cases hbb : b' = b
                    · subst hbb
                      obtain ⟨e3, t3, xs3, h11, h12⟩ := hc.still b' i n _ off hsb hO rfl h1
                      cases h11
                      have hcell : ∀ (l : List Value), i < l.length → cellAt (w.setRow b' (l ++ cs ++ rest.drop cs.length).toArray) b' i = l[i]? := by
                        intro l hl
                        unfold cellAt
                        rw [cell_setRow_same w b' i arr _ e (0, 0) h2]
                        simp only [List.append_assoc, List.getElem?_toArray]
                        rw [List.getElem?_append_left hl]
                      rw [hcell _ (by rw [List.length_append, htl, hxl]; exact h12)]
                      have : arr.toList[i]? = some v := by
                        unfold cellAt World.cell? at hcl'
                        rw [h2] at hcl'
                        simpa using hcl'
                      rw [← this]
                      have e4 : arr.toList = (arr.toList.take off ++ cx0) ++ rest := by
                        rw [List.append_assoc, ← h4, List.take_append_drop]
                      have e5 : arr.toList[i]? = ((arr.toList.take off ++ cx0) ++ rest)[i]? := congrArg (fun l : List Value => l[i]?) e4
                      exact (e5.trans (List.getElem?_append_left (by rw [List.length_append, htl, hxl]; exact h12))).symm
                    · rw [← hcl']; exact cellAt_block (setRow_other w b b' _ hbb))
                  (.inl rfl) (e' := e) (by
                    intro q hq hb hw
                    refine .inr ⟨b, off, _, cx0 ++ cs, rest.drop cs.length, by rw [hb]; exact h1, by rw [hw]; exact setRow_heap w b arr _ e (0, 0) h2, by rw [hb, List.length_append]; exact hroom, ?_, ?_, ?_, ?_, ?_⟩
                    · simp only [List.append_assoc]
                      exact List.drop_left' htl
                    · exact RdsOf_append (RdsOf_mono (fun _ _ => Rd_mono hq.S (fun b i v hs => hq.cells b i v (.inl hs)) t0) h5) (RdsOf_mono (fun _ _ => Rd_mono hq.S (fun b i v hs => hq.cells b i v (.inl hs)) t0) hrd)
                    · rw [hb]
                      simp only [List.size_toArray, List.length_append, List.length_drop, htl, hxl, hcl, hrest]
                      omega
                    · simp only [List.size_toArray, List.length_append, htl]; omega
                    · intro v hv
                      have hin : ∀ v, v ∈ arr.toList.take off ∨ v ∈ cx0 ∨ v ∈ rest → v.oneCell' = true := by
                        intro v hv
                        refine h8 v ?_
                        rw [← List.take_append_drop off arr.toList, h4]
                        simp only [List.mem_append]
                        rcases hv with h | h | h <;> simp [h]
                      simp only [List.append_assoc, List.mem_append] at hv
                      rcases hv with h | h | h | h
                      · exact hin v (.inl h)
                      · exact hin v (.inr (.inl h))
                      · exact hc1 v h
                      · exact hin v (.inr (.inr (List.mem_of_mem_drop h))))
                refine ⟨.slice (addrOf (β n).1) (xs.length + ys.length) (β n).2, _, S', _, ?_, h9, h10, .inr ?_⟩
                · refine append_room (P := P) hTu hUu (sz := ee.sz) (fun w => sizeOf_run (hE.te e ee hee) w) (ty := ty) hvx (by rw [hsz]; exact hfirst w rfl) hroom ?_ ?_
                  · intro ad had
                    rw [h1] at had; simp only [addrOf, Option.some.injEq] at had; subst had
                    rw [add_at, hsz]
                    simpa using hst
                  · intro hh; rw [h1] at hh; cases hh
                · unfold RelL; simp only [Fr.rp]; rw [hOm]; simp [upd_same]
            · -- a new row
              obtain ⟨ds, hds, hdcap, hdfirst⟩ := row_src (P := P) hobj
              simp only [Fr.rp] at hds hdcap hdfirst
              have hdl : ds.length = xs.length * t0.size := RdsOf_len (fun _ _ => Rd_len t0) hds
              obtain ⟨nc, hnc, hrun⟩ := append_grow (P := P) hTu hUu hi hiz hib (ty := ty) (base := addrOf (β n).1) (n := xs.length) (cap := (β n).2) hvx (cs := cs.toArray) (ds := ds.toArray) (w := w)
                (fun w' hw => by rw [hisz, hsz]; exact hfirst w' hw) (fun w' hw => by rw [hisz, hsz]; exact hdfirst w' hw) (by omega) hgl
              obtain ⟨S', h9, h10⟩ := hc.append hO hd (ys := xs ++ ys) (by simp) (pl := (some (w.heap.size, 0), nc))
                (w' := { w with drawn := w.drawn + 1, heap := w.heap.push (.cells (ds.toArray ++ cs.toArray ++ Builtin.zeroCells z.cells (nc - (xs.length + ys.length))) e) }) rfl rfl rfl (by simp)
                (fun k hk _ => getElem?_push_lt _ _ _ hk) (fun b i v hsb hcl' => by rw [← hcl']; exact cellAt_block (getElem?_push_lt _ _ _ (hc.dom b i hsb)))
                (.inr ⟨w.heap.size, rfl, Nat.le_refl _, by simp⟩) (e' := e) (by
                  intro q hq hb hw
                  refine .inr ⟨w.heap.size, 0, _, ds ++ cs, (Builtin.zeroCells z.cells (nc - (xs.length + ys.length))).toList, by rw [hb], by rw [hw]; simp; rfl, by rw [hb, List.length_append]; exact hnc, by simp, ?_, ?_, by simp, ?_⟩
                  · exact RdsOf_append (RdsOf_mono (fun _ _ => Rd_mono hq.S (fun b i v hs => hq.cells b i v (.inl hs)) t0) hds) (RdsOf_mono (fun _ _ => Rd_mono hq.S (fun b i v hs => hq.cells b i v (.inl hs)) t0) hrd)
                  · rw [hb]
                    simp only [Array.size_append, List.size_toArray, List.length_append, List.append_toArray, zeroCells_size, hcl, hdl, hzs, hsz]
                    have : nc = xs.length + ys.length + (nc - (xs.length + ys.length)) := by omega
                    conv => lhs; rw [this]
                    rw [Nat.add_mul, Nat.add_mul]; omega
                  · intro v hv
                    simp only [Array.toList_append, List.toList_toArray, List.mem_append] at hv
                    rcases hv with (hv | hv) | hv
                    · exact RdsOf_one (fun _ _ => Rd_one t0) hds v hv
                    · exact hc1 v hv
                    · exact zeroCells_one hz1 _ v hv)
              refine ⟨_, _, S', _, hrun, h9, h10, .inr ?_⟩
              unfold RelL; simp only [Fr.rp]; rw [hOm]; simp [upd_same, addrOf]
        · cases h
      · cases h
  · cases h
end
end Go.Proofs.R

/- Each operation does in memory what the evaluator tells: len, min, closures, slices, literals, make. -/
namespace Go.Proofs.R
open Go
section
variable {P : Program} {c : Ctx}
variable {F : Fr} {S : CellSet} {β : Nat → Place} {O : Nat → Option AObj} {w : World} {a : Act} {σ : List (Nat × AV)} {o : Oper} {next : Act → World → Prop} {Q : Exit → Act → World → Prop}

def RelAVs (p : RP) : List AV → List Value → Prop
  | [], vs => vs = []
  | a :: as, vs => ∃ v r, vs = v :: r ∧ RelAV p a v ∧ RelAVs p as r

theorem gvs_rel (hE : EnvOk P c) {p : RP} (hs : Slots p (lkp σ) a.tmps) : ∀ {xs : List Operand} {ts : List TypeId} {as : List AV}, gvs c σ xs ts = some as → RelAVs p as (xs.map a.eval)
  | [], ts, as, h => by simp only [gvs, Option.some.injEq] at h; subst h; rfl
  | x :: xs, ts, as, h => by
    simp only [gvs, Option.bind_eq_some_iff, Option.some.injEq] at h
    obtain ⟨v, h1, vs, h2, rfl⟩ := h
    exact ⟨_, _, rfl, gv_rel hE hs h1, gvs_rel hE hs h2⟩

theorem len_run (hE : EnvOk P c) {lk : Nat → Option AObj} (hlk : ∀ n o, lk n = some o → O n = some o) {T : TypeId} {l : Lf} {n : Int} (h : lenOp c lk T l = some n) {v : Value} (hr : RelL (F.rp S β O w) l [v]) (ty : TypeId) :
    (Builtin.len_ #[T] ty #[v]).run P w = .ok (.int .i64 n) w := by
  unfold lenOp at h
  split at h
  · cases hb : strOk c T with
    | false => rw [hb] at h; cases h
    | true =>
      rw [hb] at h; simp only [cond_true, Option.some.injEq] at h; subst h
      have hu := strOk_spec hE hb
      simp only [RelL, Rd, List.cons.injEq, and_true] at hr; subst hr
      simp [Builtin.len_, run_underlying hu, goInt]
  · cases hb : slOk c T with
    | false => rw [hb] at h; cases h
    | true =>
      rw [hb] at h; simp only [cond_true, Option.some.injEq] at h; subst h
      obtain ⟨e, hu⟩ := slOk_spec hE hb
      obtain ⟨A, cp, hr, _⟩ := hr
      simp only [List.cons.injEq, and_true] at hr; subst hr
      simp [Builtin.len_, run_underlying hu, goInt]
  · cases hb : slOk c T with
    | false => rw [hb] at h; cases h
    | true =>
      rw [hb] at h; simp only [cond_true, Option.some.injEq] at h; subst h
      obtain ⟨e, hu⟩ := slOk_spec hE hb
      simp only [RelL, List.cons.injEq, and_true] at hr; subst hr
      simp [Builtin.len_, run_underlying hu, goInt]
  · rename_i n
    cases hb : slOk c T with
    | false => rw [hb] at h; cases h
    | true =>
      rw [hb] at h; simp only [cond_true] at h
      obtain ⟨e, hu⟩ := slOk_spec hE hb
      split at h
      · rename_i e0 t xs fz hl
        simp only [Option.some.injEq] at h; subst h
        have hO := hlk n _ hl
        unfold RelL at hr; simp only [Fr.rp] at hr; rw [hO] at hr
        simp only [List.cons.injEq, and_true] at hr; subst hr
        simp [Builtin.len_, run_underlying hu, goInt]
      · cases h
  · cases h

theorem minMax_run {op : Bool} {vs : List AV} {l : Lf} (h : minMax op vs = some l) {p : RP} {us : List Value} (hr : RelAVs p vs us) (ts : Array TypeId) (ty : TypeId) (w : World) :
    ∃ v, (if op then Builtin.min_ ts ty us.toArray else Builtin.max_ ts ty us.toArray).run P w = .ok v w ∧ RelAV p (.one l) v := by
  unfold minMax at h
  split at h
  · rename_i k x k' y
    split at h
    · rename_i e; subst e
      cases h
      obtain ⟨v1, r1, rfl, h1, v2, r2, rfl, h2, h3⟩ := hr
      simp only [RelAVs] at h3; subst h3
      obtain rfl := rel_int h1; obtain rfl := rel_int h2
      refine ⟨_, ?_, of_int _ _ _⟩
      cases op
      · simp [Builtin.max_, Builtin.max2]
      · simp [Builtin.min_, Builtin.min2]
    · cases h
  · cases h

theorem onesL_rel {p : RP} : ∀ {as : List AV} {ls : List Lf} {vs : List Value}, onesL as = some ls → RelAVs p as vs → RelLs p ls vs
  | [], ls, vs, h, hr => by
    simp only [onesL, Option.some.injEq] at h; subst h
    simp only [RelAVs] at hr; subst hr; rfl
  | x :: as, ls, vs, h, ⟨v, r, e, h1, h2⟩ => by
    subst e
    cases x with
    | one l =>
      cases l <;> simp only [onesL, Option.bind_eq_some_iff, Option.some.injEq, reduceCtorEq] at h
      all_goals (obtain ⟨ls', h3, rfl⟩ := h; exact ⟨[v], r, rfl, h1.resolve_left (by simp), onesL_rel h3 h2⟩)
    | agg ls => simp [onesL] at h
    | tup vs => simp [onesL] at h

theorem makeFunc_ok (hE : EnvOk P c) (hc : Core F S β O w) (hs : Slots (F.rp S β O w) (lkp σ) a.tmps) {f : FuncId} {first caps : Array Operand} (ho : o.op = .makeFunc (.func f) first caps) (hf : first.isEmpty = true)
    {as : List AV} (has : gvs c σ caps.toList [] = some as) {ls : List Lf} (hl : onesL as = some ls) (hn : After F S β O (over [] O) w (.one (.clo f ls)) o a next) : o.wp P a w next Q := by
  have hr := onesL_rel hl (gvs_rel hE hs has)
  refine pure_ok hc (v := .func (.func f) #[] (caps.map a.eval)) (av := .one (.clo f ls)) ?_ (.inr ⟨_, rfl, by simpa using hr⟩) hn
  have : first = #[] := by simpa using hf
  simp [execOp, ho, Instr.makeFunc, this]

def OptRel (p : RP) : Option AV → Option Value → Prop
  | none, none => True
  | some a, some u => RelAV p a u
  | _, _ => False
theorem bound_rel {p : RP} {x : Option AV} {d n : Int} (h : boundOf x d = some n) {v : Option Value} (hr : OptRel p x v) :
    (x = none ∧ v = none ∧ n = d) ∨ ∃ k, v = some (.int k n) := by
  unfold boundOf at h
  split at h
  · cases h
    cases v with
    | none => exact .inl ⟨rfl, rfl, rfl⟩
    | some u => exact hr.elim
  · cases h
    cases v with
    | none => exact hr.elim
    | some u => exact .inr ⟨_, by rw [rel_int hr]⟩
  · cases h

theorem bounds_run {isSlice : Bool} {len cap : Nat} {lo hi : Option Value} {l h : Int} (hlo : lo = none ∧ l = 0 ∨ ∃ k, lo = some (.int k l)) (hhi : hi = none ∧ h = len ∨ ∃ k, hi = some (.int k h)) (h0 : 0 ≤ l) (h1 : l ≤ h) (h2 : h ≤ len) (h3 : len ≤ cap) (w : World) :
    (Instr.sliceBounds isSlice len cap lo hi none).run P w = .ok (l.toNat, h.toNat, cap) w := by
  have hh0 : 0 ≤ h := by omega
  have hhc : h ≤ (cap : Int) := by omega
  have hcast : ((h.toNat : Nat) : Int) = h := by omega
  rcases hlo with ⟨rfl, rfl⟩ | ⟨k, rfl⟩ <;> rcases hhi with ⟨rfl, rfl⟩ | ⟨k', rfl⟩
  · simp [Instr.sliceBounds]
  · simp [Instr.sliceBounds, Instr.sliceBound, asIntOf, hh0, hhc]
  · simp [Instr.sliceBounds, Instr.sliceBound, asIntOf, h0, h1]
  · simp [Instr.sliceBounds, Instr.sliceBound, asIntOf, hh0, hhc, h0, h1, hcast]
end
end Go.Proofs.R

/- Each operation does in memory what the evaluator tells: slices of slices, literals, make. -/
namespace Go.Proofs.R
open Go
section
variable {P : Program} {c : Ctx}
variable {F : Fr} {S : CellSet} {β : Nat → Place} {O : Nat → Option AObj} {w : World} {a : Act} {σ : List (Nat × AV)} {o : Oper} {next : Act → World → Prop} {Q : Exit → Act → World → Prop}

theorem cut_eq {α : Type} (xs : List α) (l h : Nat) (hlh : l ≤ h) : xs = xs.take l ++ ((xs.take h).drop l ++ xs.drop h) := by
  conv => lhs; rw [← List.take_append_drop h xs]
  rw [← List.append_assoc]
  congr 1
  conv => lhs; rw [← List.take_append_drop l (xs.take h)]
  rw [List.take_take, Nat.min_eq_left hlh]

/-- a part of a read-only slice -/
theorem cut_rel {S : CellSet} {w : World} {t : Ty} {xs r : List t.V} {A : Option Addr} {cap : Nat} {l h : Int} (hcap : xs.length ≤ cap) (hx : xs = [] ∨ ∃ b o ds, A = some ⟨b, o, none⟩ ∧ RdsOf (Rd S w t) ds xs ∧ At S w b o ds)
    (hs : subL xs l h = some r) : 0 ≤ l ∧ l ≤ h ∧ h ≤ (xs.length : Int) ∧ Rd S w (.sl t) [.slice (if cap = l.toNat then A else A.map (·.add (l.toNat * t.size))) (h.toNat - l.toNat) (cap - l.toNat)] r := by
  unfold subL at hs
  split at hs
  · rename_i hb
    obtain ⟨h0, h1, h2⟩ := hb
    simp only [Option.some.injEq] at hs
    refine ⟨h0, h1, h2, ?_⟩
    have hlh : l.toNat ≤ h.toNat := by omega
    have hhl : h.toNat ≤ xs.length := by omega
    have hrl : r.length = h.toNat - l.toNat := by rw [← hs, List.length_drop, List.length_take, Nat.min_eq_left hhl]
    refine ⟨_, _, by rw [hrl], by rw [hrl]; omega, ?_⟩
    by_cases hr : r = []
    · exact .inl hr
    · right
      have hrp : 0 < r.length := List.length_pos_iff.2 hr
      rcases hx with rfl | ⟨b, o, ds, rfl, h3, h4⟩
      · simp at hhl; omega
      · have hne : ¬ cap = l.toNat := by omega
        rw [if_neg hne]
        have e1 := cut_eq xs l.toNat h.toNat hlh
        rw [hs] at e1
        rw [e1] at h3
        obtain ⟨c1, d1, rfl, h5, h6⟩ := RdsOf_split _ _ h3
        obtain ⟨c2, d2, rfl, h7, h8⟩ := RdsOf_split _ _ h6
        have hc1 : c1.length = l.toNat * t.size := by
          rw [RdsOf_len (fun _ _ => Rd_len t) h5, List.length_take, Nat.min_eq_left (by omega)]
        refine ⟨b, o + l.toNat * t.size, c2, by simp [add_at], h7, ?_⟩
        have := (At_append.1 (At_append.1 h4).2).1
        rw [hc1] at this; exact this
  · cases hs

theorem slice_ok (hE : EnvOk P c) (hc : Core F S β O w) (hs : Slots (F.rp S β O w) (lkp σ) a.tmps) {T : TypeId} {X : Operand} {lo hi : Option Operand} (ho : o.op = .slice T X lo hi none)
    {v : AV} (hv : gv c σ X 0 = some v) {l : Lf} (hl : one? v = some l) {lv hv' : Option AV} (hlo : optG c σ lo = some lv) (hhi : optG c σ hi = some hv')
    {lk : Nat → Option AObj} (hlk : ∀ n o, lk n = some o → O n = some o) {av : AV} {u : Upd} (h : sliceOp c lk T l lv hv' two = some (av, u))
    (hn : After F S β O (over u O) w av o a next) : o.wp P a w next Q := by
  have hopt : ∀ {x : Option Operand} {y : Option AV}, optG c σ x = some y → OptRel (F.rp S β O w) y (x.map a.eval) := by
    intro x y hxy
    cases x with
    | none => simp only [optG, Option.some.injEq] at hxy; subst hxy; trivial
    | some x =>
      simp only [optG, Option.bind_eq_some_iff, Option.some.injEq] at hxy
      obtain ⟨z, hz, rfl⟩ := hxy
      exact gv_rel hE hs hz
  have hx := fun hu => one_rel hl hu (gv_rel hE hs hv)
  unfold sliceOp at h
  split at h
  · rename_i s
    cases hb : strOk c T with
    | false => rw [hb] at h; cases h
    | true =>
      rw [hb] at h
      simp only [cond_true, Option.bind_eq_some_iff, bindD, two, Option.some.injEq, Prod.mk.injEq] at h
      obtain ⟨lw, hlw, hg, hhg, r, hr, rfl, rfl⟩ := h
      have hu := strOk_spec hE hb
      have hxs := hx (by simp)
      simp only [RelL, Rd, List.cons.injEq, and_true] at hxs
      unfold subS at hr
      split at hr
      · rename_i hbd
        obtain ⟨h0, h1, h2⟩ := hbd
        simp only [Option.some.injEq] at hr; subst hr
        have hrun := bounds_run (P := P) (isSlice := false) (len := s.size) (cap := s.size) (lo := lo.map a.eval) (hi := hi.map a.eval) (l := lw) (h := hg)
          ((bound_rel hlw (hopt hlo)).imp (fun h => ⟨h.2.1, h.2.2⟩) id) ((bound_rel hhg (hopt hhi)).imp (fun h => ⟨h.2.1, h.2.2⟩) id) h0 h1 h2 (Nat.le_refl _) w
        refine pure_ok hc (v := .string (s.extract lw.toNat hg.toNat)) ?_ (of_str _ _) hn
        simp [execOp, ho, hxs, Instr.sliceAt, Instr.slice, run_underlying hu, hrun]
      · cases hr
  · rename_i t xs
    cases hb : eltOk c T t with
    | false => rw [hb] at h; cases h
    | true =>
      rw [hb] at h
      simp only [cond_true, Option.bind_eq_some_iff, bindD, two, Option.some.injEq, Prod.mk.injEq] at h
      obtain ⟨lw, hlw, hg, hhg, r, hr, rfl, rfl⟩ := h
      obtain ⟨e, ee, hu, hee, hsz, hpos, _⟩ := eltOk_spec hE hb
      obtain ⟨A, cap, hxs, hcap, hx2⟩ := hx (by simp)
      simp only [List.cons.injEq, and_true] at hxs
      obtain ⟨h0, h1, h2, hrd⟩ := cut_rel hcap hx2 hr
      have hrun := bounds_run (P := P) (isSlice := true) (len := xs.length) (cap := cap) (lo := lo.map a.eval) (hi := hi.map a.eval) (l := lw) (h := hg)
        ((bound_rel hlw (hopt hlo)).imp (fun h => ⟨h.2.1, h.2.2⟩) id) ((bound_rel hhg (hopt hhi)).imp (fun h => ⟨h.2.1, h.2.2⟩) id) h0 h1 h2 hcap w
      refine pure_ok hc (av := .one (.v (.sl t) r)) ?_ (.inr hrd) hn
      simp [execOp, ho, hxs, Instr.sliceAt, Instr.slice, run_underlying hu, hrun, sizeOf_run (hE.te e ee hee), hsz]
  · rename_i n
    split at h
    · rename_i e0 t xs fz hln
      cases hb : eltOk c T t with
      | false => rw [hb] at h; cases h
      | true =>
        rw [hb] at h
        simp only [cond_true, Option.bind_eq_some_iff, bindD, two, Option.some.injEq, Prod.mk.injEq] at h
        obtain ⟨lw, hlw, hg, hhg, r, hr, rfl, rfl⟩ := h
        obtain ⟨e, ee, hu, hee, hsz, hpos, _⟩ := eltOk_spec hE hb
        have hO := hlk n _ hln
        have hxs := hx (by simp)
        unfold RelL at hxs; simp only [Fr.rp] at hxs; rw [hO] at hxs
        simp only [List.cons.injEq, and_true] at hxs
        obtain ⟨S', h3, h4⟩ := hc.freeze hO
        obtain ⟨hcap, h6⟩ := h3.froz_reads (upd_same _ _ _)
        have h7 : xs = [] ∨ ∃ b o ds, addrOf (β n).1 = some ⟨b, o, none⟩ ∧ RdsOf (Rd S' w t) ds xs ∧ At S' w b o ds := by
          refine h6.imp id ?_
          rintro ⟨b, o, cs, hb, h8, h9⟩
          exact ⟨b, o, cs, by rw [hb]; rfl, h8, h9⟩
        obtain ⟨h0, h1, h2, hrd⟩ := cut_rel hcap h7 hr
        have hrun := bounds_run (P := P) (isSlice := true) (len := xs.length) (cap := (β n).2) (lo := lo.map a.eval) (hi := hi.map a.eval) (l := lw) (h := hg)
          ((bound_rel hlw (hopt hlo)).imp (fun h => ⟨h.2.1, h.2.2⟩) id) ((bound_rel hhg (hopt hhi)).imp (fun h => ⟨h.2.1, h.2.2⟩) id) h0 h1 h2 hcap w
        refine wp_value (w' := w) (v := .slice (if (β n).2 = lw.toNat then addrOf (β n).1 else (addrOf (β n).1).map (·.add (lw.toNat * t.size))) (hg.toNat - lw.toNat) ((β n).2 - lw.toNat)) ?_ ?_
        · simp [execOp, ho, hxs, Instr.sliceAt, Instr.slice, run_underlying hu, hrun, sizeOf_run (hE.te e ee hee), hsz]
        · rw [over_cons, over_nil] at hn
          exact hn _ _ _ _ h3 h4 (.inr hrd)
    · cases h
  · cases h

/-! ### slice literals -/
def setAll {α : Type} : List α → List (Nat × α) → List α
  | xs, [] => xs
  | xs, (i, a) :: r => setAll (xs.set i a) r

theorem mkParts_get {α : Type} (z : α) (ps : List (Nat × α)) : ∀ (n k j : Nat), (mkParts z ps n k)[j]? = if j < n then some ((lkp ps (k + j)).getD z) else none
  | 0, k, j => by simp [mkParts]
  | n + 1, k, 0 => by simp [mkParts]
  | n + 1, k, j + 1 => by
    simp only [mkParts, List.getElem?_cons_succ, mkParts_get z ps n (k + 1) j]
    rw [show k + 1 + j = k + (j + 1) from by omega]
    by_cases h : j < n <;> simp [h]

theorem lkp_none {α : Type} : ∀ {ps : List (Nat × α)} {i : Nat}, memB (ps.map (·.1)) i = false → lkp ps i = none
  | [], _, _ => rfl
  | (j, a) :: ps, i, h => by
    simp only [List.map_cons, memB, Bool.or_eq_false_iff] at h
    rw [lkp_cons]
    have : i ≠ j := by rintro rfl; simp at h
    rw [if_neg this]; exact lkp_none h.2

theorem setAll_get {α : Type} : ∀ (qs : List (Nat × α)) (xs : List α) (j : Nat), nodupB (qs.map (·.1)) = true → (setAll xs qs)[j]? = match lkp qs j with | some a => if j < xs.length then some a else none | none => xs[j]?
  | [], xs, j, _ => rfl
  | (i, a) :: qs, xs, j, h => by
    simp only [List.map_cons, nodupB, Bool.and_eq_true, Bool.not_eq_true'] at h
    rw [setAll, setAll_get qs _ j h.2, lkp_cons]
    by_cases hj : j = i
    · subst hj
      rw [lkp_none h.1]
      simp [List.getElem?_set]
    · rw [if_neg hj]
      cases lkp qs j with
      | none => simp [List.getElem?_set, Ne.symm hj]
      | some b => simp

theorem mkParts_eq {α : Type} {z : α} {qs : List (Nat × α)} {n : Nat} (h : nodupB (qs.map (·.1)) = true) : mkParts z qs n 0 = setAll (List.replicate n z) qs := by
  apply List.ext_getElem?
  intro j
  rw [mkParts_get, setAll_get _ _ _ h, Nat.zero_add]
  cases lkp qs j with
  | none => simp [List.getElem?_replicate]
  | some a => simp

theorem zeroCells_add (z : Array Value) (m n : Nat) : (Builtin.zeroCells z (m + n)).toList = (Builtin.zeroCells z m).toList ++ (Builtin.zeroCells z n).toList := by
  simp only [Builtin.zeroCells, Array.toList_map, Array.toList_range]
  rw [Nat.add_mul, List.range_add, List.map_append]
  congr 1
  rw [List.map_map]
  apply List.map_congr_left
  intro i _
  simp only [Function.comp]
  rw [show (m * z.size + i) % z.size = i % z.size from by rw [Nat.mul_comm, Nat.mul_add_mod]]

theorem zeroCells_one_eq (z : Array Value) : (Builtin.zeroCells z 1).toList = z.toList := by
  apply List.ext_getElem?
  intro i
  simp only [Builtin.zeroCells, Array.toList_map, Array.toList_range, Nat.one_mul]
  by_cases h : i < z.size
  · simp [h, Nat.mod_eq_of_lt h]
  · simp [h]

theorem zeroCells_reads {S : CellSet} {w : World} {t : Ty} {z : Array Value} {x : t.V} (h : Rd S w t z.toList x) : ∀ n, RdsOf (Rd S w t) (Builtin.zeroCells z n).toList (List.replicate n x)
  | 0 => by simp [Builtin.zeroCells, RdsOf]
  | n + 1 => by
    rw [Nat.add_comm, zeroCells_add, ← List.replicate_append_replicate]
    exact RdsOf_append ⟨z.toList, [], by simp [zeroCells_one_eq], h, rfl⟩ (zeroCells_reads h n)

/-- typed parts, as they stand in memory -/
theorem fillTyped {p q : RP} {lk : Nat → Option AObj} (hop : Opens p q lk) {t : Ty} {n : Nat} : ∀ {as : List (Nat × AV)} {vs : List (Nat × Value)} {qs : List (Nat × t.V)} {arr : Array Value} {xs : List t.V},
    typedParts t lk n as = some qs → PartsR p as vs → RdsOf (Rd q.S q.w t) arr.toList xs → xs.length = n →
    ∃ arr' : Array Value, Instr.fill (fun i => some (i * t.size, t.size)) arr vs = some arr' ∧ RdsOf (Rd q.S q.w t) arr'.toList (setAll xs qs)
  | [], vs, qs, arr, xs, h, hv, hr, hn => by
    simp only [typedParts, Option.some.injEq] at h; subst h
    simp only [PartsR] at hv; subst hv
    exact ⟨arr, rfl, hr⟩
  | (i, av) :: as, _, qs, arr, xs, h, ⟨v, r, e, h1, h2⟩, hr, hn => by
    subst e
    simp only [typedParts] at h
    cases hb : Nat.blt i n with
    | false => rw [hb] at h; cases h
    | true =>
      rw [hb] at h
      simp only [cond_true, Option.bind_eq_some_iff] at h
      obtain ⟨as', has, ls, hls, ⟨x, rest⟩, hx, h⟩ := h
      have hin : i < n := by simpa using hb
      simp only at h
      split at h
      · simp only [Option.bind_eq_some_iff, Option.some.injEq] at h
        obtain ⟨qs', hqs, rfl⟩ := h
        have hrv := resolveL_rel hop _ hls (leafs_rel has h1)
        obtain ⟨cx, dx, ex, hrx, hdx⟩ := toTy_rel t hx hrv
        simp only [RelLs] at hdx; subst hdx
        rw [List.append_nil] at ex
        rw [← ex] at hrx
        have hget : xs[i]? = some (xs[i]'(by omega)) := List.getElem?_eq_getElem _
        obtain ⟨x1, d1, r1, e1, l1, hd, hput⟩ := RdsOf_put (fun _ _ => Rd_len t) hr hget hrx
        have hdl : d1.length = t.size := Rd_len t hd
        have hvl : v.cells.size = t.size := by simpa using Rd_len t hrx
        have hlen : arr.size = i * t.size + (t.size + r1.length) := by
          have := congrArg List.length e1
          simp only [Array.length_toList, List.length_append] at this
          omega
        obtain ⟨arr1, h5, h6, _⟩ := fill_step (fun i => some (i * t.size, t.size)) arr i v r (off := i * t.size) (size := t.size) rfl hvl (by omega)
        have e2 : arr1.toList = x1 ++ (v.cells.toList ++ r1) := by
          rw [h6, e1, List.take_left' l1, ← l1]
          conv => lhs; rhs; rhs; rw [← hdl, ← List.length_append, ← List.append_assoc x1 d1 r1, List.drop_left]
        obtain ⟨arr', h7, h8⟩ := fillTyped hop hqs h2 (arr := arr1) (xs := xs.set i x) (by rw [e2]; exact hput) (by simpa using hn)
        exact ⟨arr', by rw [h5]; exact h7, h8⟩
      · cases h
end
end Go.Proofs.R

/- Each operation does in memory what the evaluator tells: slice literals, make. -/
namespace Go.Proofs.R
open Go
section
variable {P : Program} {c : Ctx}
variable {F : Fr} {S : CellSet} {β : Nat → Place} {O : Nat → Option AObj} {w : World} {a : Act} {σ : List (Nat × AV)} {o : Oper} {next : Act → World → Prop} {Q : Exit → Act → World → Prop}

theorem zero_reads {t : Ty} {ee : TE} {z : Value} {x : t.V} {r : List Lf} (h : toTy t ee.z = some (x, r)) (hz : ∀ p : RP, RelLs p ee.z z.cells.toList) (hs : z.cells.size = ee.sz) (ht : ee.sz = t.size) (p : RP) : Rd p.S p.w t z.cells.toList x := by
  obtain ⟨cx, d, e, h1, _⟩ := toTy_rel t h (hz p)
  have h2 : cx.length = t.size := Rd_len t h1
  have h3 : z.cells.toList.length = t.size := by simp [hs, ht]
  rw [e, List.length_append, h2] at h3
  have : d = [] := List.eq_nil_of_length_eq_zero (by omega)
  subst this
  rw [e, List.append_nil]; exact h1

theorem fill_size (place : Nat → Option (Nat × Nat)) : ∀ (vs : List (Nat × Value)) (arr arr' : Array Value), Instr.fill place arr vs = some arr' → arr'.size = arr.size
  | [], arr, arr', h => by simp only [Instr.fill, Option.some.injEq] at h; subst h; rfl
  | (i, v) :: vs, arr, arr', h => by
    unfold Instr.fill at h
    split at h
    · cases h
    · rename_i off size hp
      split at h
      · cases h
      · rename_i hb
        simp only [Bool.or_eq_true, decide_eq_true_eq, not_or, Decidable.not_not, ne_eq] at hb
        have := fill_size place vs _ arr' h
        rw [this]
        have h2 := congrArg List.length (foldl_cells off v.cells.toList 0 arr (by simp; omega))
        rw [← Array.foldl_toList, Array.toList_zipIdx]
        simp only [List.length_append, List.length_take, List.length_drop, Array.length_toList, Nat.add_zero] at h2
        rw [h2]; omega

theorem fill_one (place : Nat → Option (Nat × Nat)) : ∀ (vs : List (Nat × Value)) (arr arr' : Array Value), Instr.fill place arr vs = some arr' → (∀ v ∈ arr.toList, v.oneCell' = true) → (∀ x ∈ vs, ∀ v ∈ x.2.cells.toList, v.oneCell' = true) → ∀ v ∈ arr'.toList, v.oneCell' = true
  | [], arr, arr', h, h1, _ => by simp only [Instr.fill, Option.some.injEq] at h; subst h; exact h1
  | (i, v) :: vs, arr, arr', h, h1, h2 => by
    unfold Instr.fill at h
    split at h
    · cases h
    · rename_i off size hp
      split at h
      · cases h
      · rename_i hb
        simp only [Bool.or_eq_true, decide_eq_true_eq, not_or, Decidable.not_not, ne_eq] at hb
        refine fill_one place vs _ arr' h ?_ (fun x hx => h2 x (List.mem_cons_of_mem _ hx))
        rw [← Array.foldl_toList, Array.toList_zipIdx]
        rw [foldl_cells off v.cells.toList 0 arr (by simp; omega)]
        intro u hu
        simp only [List.mem_append] at hu
        rcases hu with hu | hu | hu
        · exact h1 u (List.mem_of_mem_take hu)
        · exact h2 (i, v) List.mem_cons_self u hu
        · exact h1 u (List.mem_of_mem_drop hu)

theorem parts_one {p : RP} {lk : Nat → Option AObj} {t : Ty} {n : Nat} : ∀ {as : List (Nat × AV)} {vs : List (Nat × Value)} {qs : List (Nat × t.V)}, typedParts t lk n as = some qs → PartsR p as vs → ∀ x ∈ vs, ∀ v ∈ x.2.cells.toList, v.oneCell' = true
  | [], vs, _, _, hv => by simp only [PartsR] at hv; subst hv; simp
  | (i, av) :: as, _, qs, h, ⟨v, r, e, h1, h2⟩ => by
    subst e
    simp only [typedParts] at h
    cases hb : Nat.blt i n with
    | false => rw [hb] at h; cases h
    | true =>
      rw [hb] at h
      simp only [cond_true, Option.bind_eq_some_iff] at h
      obtain ⟨as', has, ls, hls, ⟨x, rest⟩, hx, h⟩ := h
      simp only at h
      split at h
      · simp only [Option.bind_eq_some_iff, Option.some.injEq] at h
        obtain ⟨qs', hqs, rfl⟩ := h
        intro y hy
        rcases List.mem_cons.1 hy with rfl | hy
        · exact RelLs_cells _ (leafs_rel has h1)
        · exact parts_one hqs h2 y hy
      · cases h

theorem rowLk_zero {z : Array Value} {n : Nat} : ((Array.range (n * z.size)).map fun i => z[i % z.size]!) = Builtin.zeroCells z n := rfl

theorem setAll_len {α : Type} : ∀ (qs : List (Nat × α)) (xs : List α), (setAll xs qs).length = xs.length
  | [], _ => rfl
  | (i, a) :: qs, xs => by rw [setAll, setAll_len qs]; simp

theorem buildSlice_ok (hE : EnvOk P c) (hc : Core F S β O w) (hs : Slots (F.rp S β O w) (lkp σ) a.tmps) {T : TypeId} {n : Nat} {ps : Array (Nat × Operand)} (ho : o.op = .buildSlice T n ps) {te : TE} (ht : lkp c.te T = some te)
    {e : TypeId} (hd : te.d = .slice e) {t : Ty} (hel : eltOk c T t = true) (hn2 : Nat.ble (n * t.size) 16777216 = true) {ee : TE} (hee : lkp c.te e = some ee) {z : t.V × List Lf} (hz : toTy t ee.z = some z)
    {as : List (Nat × AV)} (has : partsOf c σ ps.toList = some as) {lk : Nat → Option AObj} (hlk : ∀ n o, lk n = some o → O n = some o) {qs : List (Nat × t.V)} (hqs : typedParts t (rowLk lk (as.flatMap fun p => p.2.names)) n as = some qs)
    (hnd : nodupB (qs.map (·.1)) = true) {d : Nat} (hnew : O d = none)
    (hn : After F S β O (over ((d, .row e t (mkParts z.1 qs n 0) false) :: freezes lk (as.flatMap fun p => p.2.names)) O) w (.one (.row d)) o a next) : o.wp P a w next Q := by
  obtain ⟨e', ee', hTu, hee', hsz, hpos, te', hte', hde'⟩ := eltOk_spec hE hel
  rw [ht] at hte'; cases hte'
  rw [hd] at hde'; cases hde'
  rw [hee] at hee'; cases hee'
  obtain ⟨i, zv, hi, hisz, hib, hiz, hzr, hz1, hzs⟩ := (hE.te e ee hee).info
  obtain ⟨S1, hc1, le1, _, _, hop⟩ := freezes_opens hc hlk (as.flatMap fun p => p.2.names)
  have hparts := partsOf_rel hE hs has
  have hzrd : Rd (F.rp S1 β (over (freezes lk (as.flatMap fun p => p.2.names)) O) w).S (F.rp S1 β (over (freezes lk (as.flatMap fun p => p.2.names)) O) w).w t zv.cells.toList z.1 :=
    zero_reads (r := z.2) (by rw [hz]) hzr hzs hsz _
  obtain ⟨arr, hfill, hrd⟩ := fillTyped hop hqs hparts (arr := Builtin.zeroCells zv.cells n) (zeroCells_reads hzrd n) (by simp)
  have hsize : arr.size = n * t.size := by
    rw [fill_size _ _ _ _ hfill, zeroCells_size, hzs, hsz]
  have hone := fill_one _ _ _ _ hfill (zeroCells_one hz1 n) (parts_one hqs hparts)
  have hnew1 : over (freezes lk (as.flatMap fun p => p.2.names)) O d = none := by
    cases h : over (freezes lk (as.flatMap fun p => p.2.names)) O d with
    | none => rfl
    | some o1 =>
      exfalso
      have : ∀ (ns : List Nat), over (freezes lk ns) O d = none := by
        intro ns
        induction ns with
        | nil => exact hnew
        | cons m ns ih =>
          unfold freezes
          split
          · rename_i e0 t0 xs0 hm
            rw [over_cons]
            have : d ≠ m := by rintro rfl; rw [hlk _ _ hm] at hnew; cases hnew
            rw [upd_ne _ _ _ _ this]; exact ih
          · exact ih
      rw [this] at h; cases h
  rw [mkParts_eq hnd] at hn
  obtain ⟨h1, h2⟩ := hc1.new hnew1 (.row e t (setAll (List.replicate n z.1) qs) false) (by intro _ _ _ hh; cases hh) (.cells arr e (0, 0)) n (by
    intro q hq hb hw
    refine .inr ⟨w.heap.size, 0, arr, arr.toList, [], by rw [hb], hw, by rw [hb, setAll_len]; simp, by simp, RdsOf_mono (fun _ _ => Rd_mono hq.S (fun b i v hs => hq.cells b i v (.inl hs)) t) hrd, by rw [hb]; simp [hsize], by simp, hone⟩)
  refine wp_value (v := .slice (some ⟨w.heap.size, 0, none⟩) n n) (w' := { w with heap := w.heap.push (.cells arr e (0, 0)) }) ?_ ?_
  · have hbig : ¬ (n * ee.sz > 16777216) := by rw [hsz]; have := Nat.le_of_ble_eq_true hn2; omega
    have hps : ((ps.map fun x => match x with | (i, x) => (i, a.eval x)).toList) = ps.toList.map fun x => (x.1, a.eval x.2) := by simp
    have hzc : (if n * t.size = 0 then (#[] : Array Value) else zv.cells) = zv.cells ∨ n = 0 := by
      by_cases h0 : n = 0
      · exact .inr h0
      · left; rw [if_neg]; exact Nat.mul_ne_zero h0 (by omega)
    simp only [execOp, ho, Instr.buildSlice, Sem.run_bind, run_underlying hTu, Result.andThen_ok, sizeOf_run (hE.te e ee hee), Sem.run_ite]
    rw [if_neg (by simpa using hbig), hsz]
    by_cases h0 : n * t.size = 0
    · have hn0 : n = 0 := by
        rcases Nat.mul_eq_zero.1 h0 with h | h
        · exact h
        · omega
      subst hn0
      rw [if_pos h0]
      simp only [Sem.run_pure, Result.andThen_ok]
      rw [hps]
      have e1 : ((Array.range (0 * t.size)).map fun x => (#[] : Array Value)[x % (#[] : Array Value).size]!) = Builtin.zeroCells zv.cells 0 := by simp [Builtin.zeroCells]
      rw [e1, hfill]
      simp [newRow]
    · rw [if_neg h0]
      simp only [Sem.run_bind, zeroValue, typeInfo, run_program, Result.andThen_ok, hi, Sem.run_pure, hiz]
      rw [hps]
      have e1 : ((Array.range (n * t.size)).map fun x => zv.cells[x % zv.cells.size]!) = Builtin.zeroCells zv.cells n := by
        rw [← hsz, ← hzs]; rfl
      rw [e1, hfill]
      simp [newRow]
  · rw [over_cons] at hn
    refine hn _ _ _ _ h1 (le_trans_same le1 h2 ?_) (.inr ?_)
    · intro m o1 o2 ho1 _ _
      simp only [Fr.rp] at ho1 ⊢
      exact upd_ne _ _ _ _ (by rintro rfl; rw [hnew] at ho1; cases ho1)
    · unfold RelL; simp only [Fr.rp, upd_same]
      simp [setAll_len, addrOf]

theorem wrap_id {n : Int} (h0 : 0 ≤ n) (h1 : n ≤ 4294967296) : IntKind.i64.wrap n = n := by
  have := IntKind.wrap_i64 n
  rw [this]; omega

theorem makeSlice_ok (hE : EnvOk P c) (hc : Core F S β O w) (hs : Slots (F.rp S β O w) (lkp σ) a.tmps) {T : TypeId} {X Y : Operand} (ho : o.op = .makeSlice T X Y) {te : TE} (ht : lkp c.te T = some te)
    {e : TypeId} (hd : te.d = .slice e) {t : Ty} (hel : eltOk c T t = true) {ee : TE} (hee : lkp c.te e = some ee) {z : t.V × List Lf} (hz : toTy t ee.z = some z)
    {x y : AV} (hx : gv c σ X 0 = some x) (hy : gv c σ Y 0 = some y) {n m : Int} (hxn : intOf? x = some n) (hym : intOf? y = some m) {len : Nat} (hlen : mkLen n m = some len) {d : Nat} (hnew : O d = none)
    (hn : After F S β O (over [(d, .row e t (List.replicate len z.1) false)] O) w (.one (.row d)) o a next) : o.wp P a w next Q := by
  obtain ⟨e', ee', hTu, hee', hsz, hpos, te', hte', hde'⟩ := eltOk_spec hE hel
  rw [ht] at hte'; cases hte'
  rw [hd] at hde'; cases hde'
  rw [hee] at hee'; cases hee'
  obtain ⟨i, zv, hi, hisz, hib, hiz, hzr, hz1, hzs⟩ := (hE.te e ee hee).info
  obtain ⟨k1, hX⟩ := int_rel hxn (gv_rel hE hs hx)
  obtain ⟨k2, hY⟩ := int_rel hym (gv_rel hE hs hy)
  unfold mkLen at hlen
  split at hlen
  · rename_i hb
    obtain ⟨h0, h1, h2⟩ := hb
    simp only [Option.some.injEq] at hlen
    have h2' : m ≤ 4294967296 := by simpa [mostLen] using h2
    have hzrd : ∀ p : RP, Rd p.S p.w t zv.cells.toList z.1 := fun p => zero_reads (r := z.2) (by rw [hz]) hzr hzs hsz p
    have hml : m.toNat = len + (m.toNat - len) := by omega
    obtain ⟨h3, h4⟩ := hc.new hnew (.row e t (List.replicate len z.1) false) (by intro _ _ _ hh; cases hh) (.cells (Builtin.zeroCells zv.cells m.toNat) e (0, 0)) m.toNat (by
      intro q hq hb hw
      refine .inr ⟨w.heap.size, 0, _, (Builtin.zeroCells zv.cells len).toList, (Builtin.zeroCells zv.cells (m.toNat - len)).toList, by rw [hb], hw, by rw [hb]; simp; omega, ?_, zeroCells_reads (hzrd q) len, ?_, by simp, zeroCells_one hz1 _⟩
      · conv => lhs; rw [hml, zeroCells_add]
        simp
      · rw [hb]; simp [zeroCells_size, hzs, hsz])
    refine wp_value (v := .slice (some ⟨w.heap.size, 0, none⟩) len m.toNat) (w' := { w with heap := w.heap.push (.cells (Builtin.zeroCells zv.cells m.toNat) e (0, 0)) }) ?_ ?_
    · have w1 := wrap_id h0 (by omega : n ≤ 4294967296)
      have w2 := wrap_id (by omega : 0 ≤ m) h2'
      have hbig : ¬ ((i.bytes : Int) * m > 2 ^ 48) := by
        have : (i.bytes : Int) * m ≤ 8192 * 4294967296 := Int.mul_le_mul (by omega) h2' (by omega) (by omega)
        omega
      have hc1 : (decide (m < 0) || decide ((i.bytes : Int) * m > 2 ^ 48) || decide (n < 0) || decide (n > m)) = false := by
        simp only [Bool.or_eq_false_iff, decide_eq_false_iff_not]
        exact ⟨⟨⟨by omega, hbig⟩, by omega⟩, by omega⟩
      simp only [execOp, ho, hX, hY, Instr.makeSlice, Sem.run_bind, run_underlying hTu, Result.andThen_ok, asInt, asIntOf, Sem.run_pure, typeInfo, run_program, hi, w1, w2, Sem.run_ite]
      rw [if_neg (by simpa using hc1)]
      simp only [run_askRoom, Result.andThen_ok, sizeOf_run (hE.te e ee hee)]
      by_cases h5 : m.toNat * ee.sz = 0
      · have h6 : m.toNat = 0 := by
          rcases Nat.mul_eq_zero.1 h5 with h | h
          · exact h
          · omega
        rw [if_pos h5]
        have e1 : ((Array.range (m.toNat * ee.sz)).map fun x => (#[] : Array Value)[x % (#[] : Array Value).size]!) = Builtin.zeroCells zv.cells m.toNat := by rw [h6]; simp [Builtin.zeroCells]
        rw [e1]
        simp [newRow, hlen]
      · rw [if_neg h5]
        have hzv : (zeroValue e).run P w = .ok zv w := by simp [zeroValue, typeInfo, hi, hiz]
        rw [hzv]
        simp only [Result.andThen_ok]
        have e1 : ((Array.range (m.toNat * ee.sz)).map fun x => zv.cells[x % zv.cells.size]!) = Builtin.zeroCells zv.cells m.toNat := by rw [← hzs]; rfl
        rw [e1]
        simp [newRow, hlen]
    · rw [over_cons, over_nil] at hn
      refine hn _ _ _ _ h3 h4 (.inr ?_)
      unfold RelL; simp only [Fr.rp, upd_same]
      simp [addrOf]
  · cases hlen
end
end Go.Proofs.R

/- Calls: what is known of a callee, and what its caller makes of it. -/
namespace Go.Proofs.R
open Go

/-- the results' cells; the names of the rows that the callee made -/
def RetL (p : RP) (sh : Bool) : (rs : List RS) → HV (rsTys rs) → List Value → List Nat → Prop
  | [], _, cs, ns => cs = [] ∧ ns = []
  | .ro t :: rs, x, cs, ns => ∃ c d, cs = c ++ d ∧ Rd p.S p.w t c x.1 ∧ RetL p sh rs x.2 d ns
  | .fresh e t :: rs, x, cs, ns => (∃ n ns' d fz, ns = n :: ns' ∧ p.O n = some (.row e t x.1 fz) ∧ (sh = true → fz = false) ∧ cs = .slice (addrOf (p.β n).1) (List.length x.1) (p.β n).2 :: d ∧ RetL p sh rs x.2 d ns') ∨
      (∃ d, x.1 = ([] : List t.V) ∧ cs = .slice none 0 0 :: d ∧ RetL p sh rs x.2 d ns)

/-- the results' values, out of their cells -/
def ResV : RetD → List Value → List Value → Prop
  | [], cs, vs => cs = [] ∧ vs = []
  | (ag, rs) :: d, cs, vs => ∃ c r v vr, cs = c ++ r ∧ vs = v :: vr ∧ (if ag then v = .agg c.toArray else c = [v]) ∧ c.length = (rs.map fun r => r.ty.size).sum ∧ ResV d r vr

def oneOrTuple : List Value → Value
  | [v] => v
  | vs => .tuple vs.toArray

def noBase : Nat → Place := fun _ => (none, 0)

/-- What a call does: it returns these results, and leaves alone what was there. -/
def CallOk (P : Program) (c : Ctx) (f : FuncId) (args : List AV) (r : HV (rsTys ((c.ret f).flatMap (·.2)))) : Prop :=
  (∀ (w : World) (vs : Array Value), (callFunc f vs).run P w = .ok (.enter f vs) w) ∧
  ∀ (w : World) (Sf : CellSet) (vs : Array Value), (∀ b i, Sf b i → b < w.heap.size) →
    RelAVs (Fr.rp ⟨w, fun _ => False, Sf⟩ Sf noBase (fun _ => none) w) args vs.toList →
    Calls P f vs w fun e w' => ∃ S' β' O' cs ws ns, e = .returned (oneOrTuple ws) ∧ Core ⟨w, fun _ => False, Sf⟩ S' β' O' w' ∧
      RetL (Fr.rp ⟨w, fun _ => False, Sf⟩ S' β' O' w') (((c.ret f).flatMap (·.2)).any RS.shares) ((c.ret f).flatMap (·.2)) r cs ns ∧ ns.Nodup ∧ ResV (c.ret f) cs ws

structure Snd (P : Program) (c : Ctx) (I : Interp c) : Prop where
  call : ∀ f args r, I.call f args = some r → CallOk P c f args r

section
variable {P : Program} {c : Ctx}
variable {F : Fr} {S : CellSet} {β : Nat → Place} {O : Nat → Option AObj} {w : World} {a : Act} {σ : List (Nat × AV)} {o : Oper} {next : Act → World → Prop} {Q : Exit → Act → World → Prop}

theorem RdsOf_any {α : Type} {R R' : List Value → α → Prop} (h : ∀ c x, R c x → R' c x) {cs : List Value} {xs : List α} (hr : RdsOf R cs xs) : RdsOf R' cs xs := RdsOf_mono h hr

theorem Rd_noSl {S S' : CellSet} {w w' : World} : ∀ (t : Ty) {cs : List Value} {x : t.V}, t.hasSl = false → Rd S w t cs x → Rd S' w' t cs x
  | .unit, _, _, _, h => h
  | .int _, _, _, _, h => h
  | .bool, _, _, _, h => h
  | .str, _, _, _, h => h
  | .pair a b, _, _, hs, ⟨c, d, e, h1, h2⟩ => by
    simp only [Ty.hasSl, Bool.or_eq_false_iff] at hs
    exact ⟨c, d, e, Rd_noSl a hs.1 h1, Rd_noSl b hs.2 h2⟩
  | .sl t, _, _, hs, _ => by simp [Ty.hasSl] at hs
  | .arr n t, _, _, hs, ⟨hl, h⟩ => by
    simp only [Ty.hasSl] at hs
    exact ⟨hl, RdsOf_mono (fun _ _ => Rd_noSl t hs) h⟩

theorem unpack_names (d : Nat) : ∀ (rs : List RS) (x : HV (rsTys rs)) (j k : Nat), k < j → lkp (unpackL d rs x j).2 (d * 8 + k) = none
  | [], _, _, _, _ => rfl
  | .ro t :: rs, x, j, k, h => unpack_names d rs x.2 j k h
  | .fresh e t :: rs, x, j, k, h => by
    show lkp ((d * 8 + j, AObj.row e t x.1 false) :: (unpackL d rs x.2 (j + 1)).2) (d * 8 + k) = none
    rw [lkp_cons, if_neg (by omega)]
    exact unpack_names d rs x.2 (j + 1) k (by omega)

theorem lkp_mem {α : Type} : ∀ {l : List (Nat × α)} {n : Nat} {x : α}, lkp l n = some x → (n, x) ∈ l
  | (m, y) :: l, n, x, h => by
    rw [lkp_cons] at h
    split at h
    · rename_i e; subst e; cases h; exact List.mem_cons_self
    · exact List.mem_cons_of_mem _ (lkp_mem h)

theorem unpack_mem (d : Nat) : ∀ (rs : List RS) (x : HV (rsTys rs)) (j n : Nat) (o : AObj), (n, o) ∈ (unpackL d rs x j).2 → ∃ k, n = d * 8 + j + k ∧ k < freshNum rs
  | [], _, _, _, _, h => by cases h
  | .ro t :: rs, x, j, n, o, h => unpack_mem d rs x.2 j n o h
  | .fresh e t :: rs, x, j, n, o, h => by
    rcases List.mem_cons.1 h with h | h
    · cases h; exact ⟨0, rfl, Nat.succ_pos _⟩
    · obtain ⟨k, h1, h2⟩ := unpack_mem d rs x.2 (j + 1) n o h
      exact ⟨k + 1, by omega, Nat.succ_lt_succ h2⟩

/-- each block is an old one, or one of the callee's rows -/
def Blocks (n0 : Nat) (β' : Nat → Place) (O' : Nat → Option AObj) (ns : List Nat) (β : Nat → Place) (O : Nat → Option AObj) : Prop :=
  ∀ n o b off, O n = some o → o.live = true → (β n).1 = some (b, off) → b < n0 ∨ ∃ k o0 of0, k ∈ ns ∧ O' k = some o0 ∧ o0.live = true ∧ (β' k).1 = some (b, of0)

/-- the objects of a callee, taken over by its caller, one by one -/
theorem import_ret {Fc : Fr} {S' : CellSet} {β' : Nat → Place} {O' : Nat → Option AObj} {w' : World} (hcc : Core Fc S' β' O' w') (hX : ∀ k, ¬ Fc.X k) (hw0 : Fc.w0 = w) (hsz : F.w0.heap.size ≤ w.heap.size) (sh : Bool) {S2 : CellSet}
    (hS2 : (sh = true ∧ ∀ b i, S2 b i ↔ S' b i) ∨ (sh = false ∧ ∀ b i, S2 b i → b < w.heap.size)) {d : Nat} {β : Nat → Place} {O : Nat → Option AObj} (hc : Core F S2 β O w') (hbl : Blocks w.heap.size β' O' [] β O) :
    ∀ (rs : List RS) (x : HV (rsTys rs)) (cs : List Value) (ns : List Nat) (j : Nat), RetL (Fc.rp S' β' O' w') sh rs x cs ns → ns.Nodup → (sh = false → rs.any RS.shares = false) →
      (∀ i, (lkp (unpackL d rs x j).2 i).isSome = true → O i = none) →
      ∃ β2, Core F S2 β2 (over (unpackL d rs x j).2 O) w' ∧ (F.rp S2 β O w').le (F.rp S2 β2 (over (unpackL d rs x j).2 O) w') ∧ (∀ n, O n ≠ none → β2 n = β n) ∧
        Blocks w.heap.size β' O' ns β2 (over (unpackL d rs x j).2 O) ∧ RelLs (F.rp S2 β2 (over (unpackL d rs x j).2 O) w') (unpackL d rs x j).1 cs
  | [], x, cs, ns, j, hr, _, _, _ => by
    obtain ⟨rfl, rfl⟩ := hr
    exact ⟨β, hc, le_refl _, fun _ _ => rfl, hbl, rfl⟩
  | .ro t :: rs, x, cs, ns, j, hr, hnd, hsh, hfree => by
    obtain ⟨c1, d1, rfl, h1, h2⟩ := hr
    obtain ⟨β2, h3, h4, h5, h5b, h6⟩ := import_ret hcc hX hw0 hsz sh hS2 hc hbl rs x.2 d1 ns j h2 hnd (fun h => by have := hsh h; simp only [List.any_cons, Bool.or_eq_false_iff] at this; exact this.2) hfree
    refine ⟨β2, h3, h4, h5, h5b, c1, d1, rfl, ?_, h6⟩
    rcases hS2 with ⟨hs, hS⟩ | ⟨hs, _⟩
    · exact Rd_mono (fun b i h => (hS b i).2 h) (fun _ _ _ _ h => h) t h1
    · have := hsh hs
      simp only [List.any_cons, Bool.or_eq_false_iff, RS.shares] at this
      exact Rd_noSl t this.1 h1
  | .fresh e t :: rs, x, cs, ns, j, hr, hnd, hsh, hfree => by
    have hsh2 : sh = false → rs.any RS.shares = false := fun h => by have := hsh h; simp only [List.any_cons, Bool.or_eq_false_iff] at this; exact this.2
    have hupd : (unpackL d (.fresh e t :: rs) x j).2 = (d * 8 + j, .row e t x.1 false) :: (unpackL d rs x.2 (j + 1)).2 := rfl
    have hls : (unpackL d (.fresh e t :: rs) x j).1 = .row (d * 8 + j) :: (unpackL d rs x.2 (j + 1)).1 := rfl
    have hd : O (d * 8 + j) = none := hfree _ (by rw [hupd, lkp_cons]; simp)
    have hfree2 : ∀ i, (lkp (unpackL d rs x.2 (j + 1)).2 i).isSome = true → O i = none := by
      intro i hi
      refine hfree i ?_
      rw [hupd, lkp_cons]; split
      · rfl
      · exact hi
    have hrest : ∀ (β1 : Nat → Place), over (unpackL d rs x.2 (j + 1)).2 O (d * 8 + j) = none := by
      intro _
      unfold over
      rw [unpack_names d rs x.2 (j + 1) j (by omega)]
      exact hd
    have hO2 : ∀ n, O n ≠ none → n ≠ d * 8 + j := by rintro n hn rfl; exact hn hd
    rw [hupd, hls, over_cons]
    rcases hr with ⟨n, ns', d1, fz, rfl, hO', hfz, rfl, h2⟩ | ⟨d1, hx0, rfl, h2⟩
    · -- a row
      obtain ⟨hnn, hnd'⟩ := List.nodup_cons.1 hnd
      obtain ⟨β2, h3, h4, h5, h5b, h6⟩ := import_ret hcc hX hw0 hsz sh hS2 hc hbl rs x.2 d1 ns' (j + 1) h2 hnd' hsh2 hfree2
      have hdn := hrest β2
      have hobj := hcc.obj n _ hO'
      have hrow : ∀ q : RP, q.w = w' → (∀ b i, S2 b i → q.S b i) → q.β (d * 8 + j) = β' n → ObjR q (d * 8 + j) (.row e t x.1 false) := by
        intro q hqw hqS hqb
        rcases hobj with ⟨h1, h3⟩ | ⟨b, o0, arr, cs0, rest, h1, h3, h4, h5, h6, h7, h8, h9⟩
        · exact .inl ⟨by rw [hqb]; exact h1, h3⟩
        · refine .inr ⟨b, o0, arr, cs0, rest, by rw [hqb]; exact h1, by rw [hqw]; exact h3, by rw [hqb]; exact h4, h5, ?_, by rw [hqb]; exact h7, h8, h9⟩
          rcases hS2 with ⟨hs, hS⟩ | ⟨hs, _⟩
          · exact RdsOf_mono (fun _ _ => Rd_mono (fun b i h => hqS b i ((hS b i).2 h)) (fun b i v _ h => by rw [hqw]; exact h) t) h6
          · have := hsh hs
            simp only [List.any_cons, Bool.or_eq_false_iff, RS.shares] at this
            exact RdsOf_mono (fun _ _ => Rd_noSl t this.1) h6
      have hblk : ∀ b off, (β' n).1 = some (b, off) → w.heap.size ≤ b ∧ b < w'.heap.size := by
        intro b off hb
        refine ⟨?_, ObjR_block hobj rfl hb⟩
        rcases hcc.far n _ b off hO' rfl hb with h | h
        · rw [hw0] at h; exact h
        · exact (hX b h).elim
      have hnoS : ∀ b off i, (β' n).1 = some (b, off) → ¬ S2 b i := by
        intro b off i hb hs
        rcases hS2 with ⟨hs2, hS⟩ | ⟨hs2, hS⟩
        · obtain ⟨e1, t1, xs1, h1, _⟩ := hcc.still b i n _ off ((hS b i).1 hs) hO' rfl hb
          have := hfz hs2
          subst this; cases h1
        · have := hS b i hs; have := (hblk b off hb).1; omega
      obtain ⟨h7, h8⟩ : Core F S2 (upd β2 (d * 8 + j) (β' n)) (upd (over (unpackL d rs x.2 (j + 1)).2 O) (d * 8 + j) (some (.row e t x.1 false))) w' ∧
          (F.rp S2 β2 (over (unpackL d rs x.2 (j + 1)).2 O) w').le (F.rp S2 (upd β2 (d * 8 + j) (β' n)) (upd (over (unpackL d rs x.2 (j + 1)).2 O) (d * 8 + j) (some (.row e t x.1 false))) w') := by
        refine h3.change (fun k => k = d * 8 + j) rfl rfl rfl (Nat.le_refl _) (fun _ _ _ => rfl) (fun _ _ h => h) (fun _ _ _ _ h => h) ?_ ?_ ?_ ?_ ?_ (fun _ _ h => .inl h) h3.dom ?_ ?_
        · intro k hk; exact ⟨upd_ne _ _ _ _ hk, upd_ne _ _ _ _ hk⟩
        · rintro k ok hk rfl; rw [hdn] at hk; cases hk
        · rintro le k ok hk rfl
          rw [upd_same] at hk; cases hk
          exact hrow _ rfl (fun _ _ h => h) (by simp [Fr.rp, upd_same])
        · rintro k ok b off rfl _ _ hb
          rw [upd_same] at hb
          have := (hblk b off hb).1
          exact .inl (by omega)
        · rintro k k' ok ok' b x1 y1 rfl hk hk' hlk hlk' hb hb'
          by_cases e1 : k' = d * 8 + j
          · exact e1.symm
          · exfalso
            rw [upd_same] at hb
            rw [upd_ne _ _ _ _ e1] at hk' hb'
            rcases h5b k' ok' b y1 hk' hlk' hb' with h | ⟨k2, o2, of2, h6, h7, h8, h9⟩
            · have := (hblk b x1 hb).1; omega
            · have := hcc.apart n k2 _ o2 b x1 of2 hO' h7 rfl h8 hb h9
              exact hnn (this ▸ h6)
        · rintro b i k ok off hs hk hlk hb
          by_cases e1 : k = d * 8 + j
          · subst e1
            rw [upd_same] at hb
            exact (hnoS b off i hb hs).elim
          · rw [upd_ne _ _ _ _ e1] at hk hb
            exact h3.still b i k ok off hs hk hlk hb
        · rintro k e1 t1 xs1 b off i rfl hk
          rw [upd_same] at hk; cases hk
      refine ⟨_, h7, le_trans_same h4 h8 ?_, ?_, ?_, [_], d1, rfl, ?_, RelLs_le h8 _ h6⟩
      · intro m o1 o2 ho1 _ _
        simp only [Fr.rp] at ho1 ⊢
        have hm : O m ≠ none := by rw [ho1]; simp
        rw [upd_ne _ _ _ _ (hO2 m hm)]; exact h5 m hm
      · intro m hm
        rw [upd_ne _ _ _ _ (hO2 m hm)]; exact h5 m hm
      · intro m om b off hm hlm hb
        by_cases e1 : m = d * 8 + j
        · subst e1
          rw [upd_same] at hb
          exact .inr ⟨n, _, off, List.mem_cons_self, hO', rfl, hb⟩
        · rw [upd_ne _ _ _ _ e1] at hm hb
          rcases h5b m om b off hm hlm hb with h | ⟨k2, o2, of2, h9, h10, h11, h12⟩
          · exact .inl h
          · exact .inr ⟨k2, o2, of2, List.mem_cons_of_mem _ h9, h10, h11, h12⟩
      · unfold RelL; simp only [Fr.rp, upd_same]
    · -- nil
      obtain ⟨β2, h3, h4, h5, h5b, h6⟩ := import_ret hcc hX hw0 hsz sh hS2 hc hbl rs x.2 d1 ns (j + 1) h2 hnd hsh2 hfree2
      obtain ⟨h7, h8⟩ := h3.newNil (e := e) (t := t) (hrest β2)
      rw [over_cons, over_nil] at h7 h8
      rw [hx0]
      refine ⟨_, h7, le_trans_same h4 h8 ?_, ?_, ?_, [_], d1, rfl, ?_, RelLs_le h8 _ h6⟩
      · intro m o1 o2 ho1 _ _
        simp only [Fr.rp] at ho1 ⊢
        have hm : O m ≠ none := by rw [ho1]; simp
        rw [upd_ne _ _ _ _ (hO2 m hm)]; exact h5 m hm
      · intro m hm
        rw [upd_ne _ _ _ _ (hO2 m hm)]; exact h5 m hm
      · intro m om b off hm hlm hb
        by_cases e1 : m = d * 8 + j
        · subst e1; rw [upd_same] at hb; cases hb
        · rw [upd_ne _ _ _ _ e1] at hm hb
          exact h5b m om b off hm hlm hb
      · unfold RelL; simp only [Fr.rp, upd_same]; simp [addrOf]

theorem unpack_sizes (d : Nat) : ∀ (rs : List RS) (x : HV (rsTys rs)) (j : Nat), (unpackL d rs x j).1.map Lf.size = rs.map fun r => r.ty.size
  | [], _, _ => rfl
  | .ro t :: rs, x, j => by show t.size :: _ = t.size :: _; rw [unpack_sizes d rs x.2 j]
  | .fresh e t :: rs, x, j => by show 1 :: _ = 1 :: _; rw [unpack_sizes d rs x.2 (j + 1)]

theorem group_rel {p : RP} : ∀ (d : RetD) (ls : List Lf) (cs ws : List Value), ls.map Lf.size = (d.flatMap (·.2)).map (fun r => r.ty.size) → RelLs p ls cs → ResV d cs ws → (group d ls).all (fun p => p.1 || Nat.beq p.2.length 1) = true → RelVls p (group d ls) ws
  | [], ls, cs, ws, _, _, h, _ => h.2
  | (ag, rs) :: d, ls, cs, ws, hsz, hr, ⟨c1, r1, v, vr, e1, e2, hv, hl, h⟩, hall => by
    subst e2
    simp only [List.flatMap_cons, List.map_append] at hsz
    have hlen : ls.length = rs.length + (d.flatMap (·.2)).length := by
      have := congrArg List.length hsz
      simpa using this
    have e3 : ls = ls.take rs.length ++ ls.drop rs.length := (List.take_append_drop _ _).symm
    have hs1 : (ls.take rs.length).map Lf.size = rs.map fun r => r.ty.size := by
      rw [List.map_take, hsz]
      exact List.take_left' (by simp)
    have hs2 : (ls.drop rs.length).map Lf.size = (d.flatMap (·.2)).map fun r => r.ty.size := by
      rw [List.map_drop, hsz]
      exact List.drop_left' (by simp)
    rw [e3] at hr
    obtain ⟨c2, d2, e4, h2, h3⟩ := RelLs_split _ _ hr
    have hc2 : c2.length = c1.length := by
      rw [RelLs_len _ h2, hl]; unfold sizes; rw [hs1]
    obtain ⟨rfl, rfl⟩ := List.append_inj (e4.symm.trans e1) hc2
    simp only [group, List.all_cons, Bool.and_eq_true] at hall
    refine ⟨v, vr, rfl, ?_, group_rel d _ _ vr hs2 h3 h hall.2⟩
    cases ag with
    | true =>
      simp only [if_true] at hv
      exact ⟨_, hv, by simpa using h2⟩
    | false =>
      simp only [Bool.false_eq_true, if_false] at hv
      have h4 := hall.1
      simp only [Bool.false_or] at h4
      have h5 := Nat.eq_of_beq_eq_true h4
      match hm : ls.take rs.length, h5 with
      | [l], _ =>
        rw [hm] at h2
        obtain ⟨c3, c4, e5, h6, h7⟩ := h2
        simp only [RelLs] at h7; subst h7
        simp only [List.append_nil] at e5; subst e5
        rw [hv] at h6
        exact ⟨l, rfl, .inr h6⟩

theorem groupAV_rel {p : RP} {d : RetD} {ls : List Lf} {cs ws : List Value} (hsz : ls.map Lf.size = (d.flatMap (·.2)).map (fun r => r.ty.size)) (hr : RelLs p ls cs) (hv : ResV d cs ws) {av : AV} (h : groupAV d ls = some av) : RelAV p av (oneOrTuple ws) := by
  unfold groupAV at h
  split at h
  · rename_i q hq
    have hall : (group d ls).all (fun p => p.1 || Nat.beq p.2.length 1) = true := by
      rw [hq]; unfold avOf at h
      split at h
      · rfl
      · rfl
      · cases h
    have := group_rel d ls cs ws hsz hr hv hall
    rw [hq] at this
    obtain ⟨v, r, rfl, h1, h2⟩ := this
    simp only [RelVls] at h2; subst h2
    show RelAV p av v
    unfold avOf at h
    split at h
    · cases h; exact h1
    · cases h
      obtain ⟨l, e, h3⟩ := h1
      simp only [List.cons.injEq, and_true] at e; subst e; exact h3
    · cases h
  · rename_i ps hps
    cases hall : (group d ls).all (fun p => p.1 || Nat.beq p.2.length 1) with
    | false => rw [hall] at h; cases h
    | true =>
      rw [hall] at h; simp only [cond_true, Option.some.injEq] at h; subst h
      have := group_rel d ls cs ws hsz hr hv hall
      have hne : ∀ v, ws ≠ [v] := by
        rintro v rfl
        match hg : group d ls with
        | [] => rw [hg] at this; simp [RelVls] at this
        | [q] => exact hps q hg
        | q :: q2 :: r =>
          rw [hg] at this
          obtain ⟨v1, r1, e1, _, v2, r2, e2, _⟩ := this
          subst e2; simp at e1
      have : oneOrTuple ws = .tuple ws.toArray := by
        unfold oneOrTuple
        split
        · rename_i v; exact (hne v rfl).elim
        · rfl
      rw [this]
      exact ⟨_, rfl, by simpa using ‹RelVls p (group d ls) ws›⟩

theorem RelAVs_append {p : RP} : ∀ {as bs : List AV} {us vs : List Value}, RelAVs p as us → RelAVs p bs vs → RelAVs p (as ++ bs) (us ++ vs)
  | [], bs, us, vs, h, h' => by simp only [RelAVs] at h; subst h; simpa using h'
  | x :: as, bs, _, vs, ⟨v, r, e, h1, h2⟩, h' => by
    subst e
    exact ⟨v, r ++ vs, rfl, h1, RelAVs_append h2 h'⟩

theorem caps_rel {p : RP} : ∀ {ls : List Lf} {vs : List Value}, RelLs p ls vs → ls.all (fun l => Nat.beq l.size 1) = true → RelAVs p (ls.map AV.one) vs
  | [], vs, h, _ => h
  | l :: ls, _, ⟨c1, d1, e, h1, h2⟩, hs => by
    subst e
    simp only [List.all_cons, Bool.and_eq_true] at hs
    have h3 := RelL_len l h1
    rw [Nat.eq_of_beq_eq_true hs.1] at h3
    match c1, h3 with
    | [v], _ => exact ⟨v, d1, rfl, .inr h1, caps_rel h2 hs.2⟩

theorem resolveAVs_rel {p q : RP} {lk : Nat → Option AObj} (h : Opens p q lk) : ∀ {as bs : List AV} {vs : List Value}, resolveAVs lk as = some bs → RelAVs p as vs → RelAVs q bs vs
  | [], bs, vs, e, hr => by simp only [resolveAVs, Option.some.injEq] at e; subst e; exact hr
  | x :: as, bs, _, e, ⟨v, r, e1, h1, h2⟩ => by
    subst e1
    simp only [resolveAVs, Option.bind_eq_some_iff, Option.some.injEq] at e
    obtain ⟨b, h3, bs', h4, rfl⟩ := e
    exact ⟨v, r, rfl, resolveAV_rel h h3 h1, resolveAVs_rel h h4 h2⟩

/-- a call, as its caller sees it -/
theorem callOp_ok {I : Interp c} (hI : Snd P c I) (hc : Core F S β O w) {lk : Nat → Option AObj} {ns : List Nat} (hlk : ∀ n o, lk n = some o → O n = some o) (hns : ∀ n o, lk n = some o → n ∈ ns)
    {d : Nat} {g : FuncId} {args : List AV} {av : AV} {u : Upd} (h : callOp c I lk d g args ns two = some (av, u)) {vs : Array Value} (hr : RelAVs (F.rp S β O w) args vs.toList)
    (hfree : ∀ n o', (n, o') ∈ u → n / 8 = d → n % 8 < 5 → O n = none) :
    (callFunc g vs).run P w = .ok (.enter g vs) w ∧ Calls P g vs w fun e w' => ∃ v S' β', e = .returned v ∧ Core F S' β' (over u O) w' ∧ (F.rp S β O w).le (F.rp S' β' (over u O) w') ∧ RelAV (F.rp S' β' (over u O) w') av v := by
  unfold callOp at h
  cases hfn : Nat.blt (freshNum ((c.ret g).flatMap (·.2))) 6 with
  | false => rw [hfn] at h; cases h
  | true =>
  rw [hfn] at h
  simp only [cond_true, Option.bind_eq_some_iff, bindD, two, Option.some.injEq, Prod.mk.injEq] at h
  obtain ⟨as, has, r, hr1, v, hv, rfl, hu⟩ := h
  have hfr : ∀ i, (lkp (unpackL d ((c.ret g).flatMap (·.2)) r 0).2 i).isSome = true → O i = none := by
    intro i hi
    cases hl : lkp (unpackL d ((c.ret g).flatMap (·.2)) r 0).2 i with
    | none => rw [hl] at hi; cases hi
    | some o' =>
      have hm := lkp_mem hl
      obtain ⟨j, h1, h2⟩ := unpack_mem d _ _ _ _ _ hm
      have : freshNum _ + 1 ≤ 6 := Nat.le_of_ble_eq_true hfn
      refine hfree i o' ?_ (by omega) (by omega)
      rw [← hu]; exact List.mem_append_left _ hm
  obtain ⟨henter, hcall⟩ := hI.call g as r hr1
  refine ⟨henter w vs, ?_⟩
  have hrowblk : ∀ n o b off, O n = some o → o.live = true → (β n).1 = some (b, off) → b < w.heap.size := fun n o b off h1 h2 h3 => ObjR_block (hc.obj n o h1) h2 h3
  have hbox : ∀ (q : RP), q.w = w → (∀ b i, b < w.heap.size → q.N b i) → ∀ n T ls, lk n = some (.box T ls) → O n = some (.box T ls) ∧ ∃ b ds, (β n).1 = some (b, 0) ∧ RelLs (F.rp S β O w) ls ds ∧ At (fun b i => q.N b i ∨ q.S b i) q.w b 0 ds := by
    intro q hqw hqN n T ls hl
    have hO := hlk n _ hl
    obtain ⟨b, arr, h1, h2, h3⟩ := hc.obj n _ hO
    refine ⟨hO, b, arr.toList, h1, h3, ?_⟩
    rw [hqw]
    simp only [Fr.rp] at h2
    exact At_of_block h2 (o := 0) (rest := []) (by simp) (fun j _ => .inl (hqN _ _ (Array.getElem?_eq_some_iff.1 h2).1))
  cases hsh : ((c.ret g).flatMap (·.2)).any RS.shares with
  | true =>
    rw [hsh] at hu; simp only [cond_true] at hu
    obtain ⟨S1, hc1, le1, hrow1, _⟩ := hc.freezes hlk ns
    have hop : Opens (F.rp S β O w) (Fr.rp ⟨w, fun _ => False, S1⟩ S1 noBase (fun _ => none) w) lk := by
      refine ⟨le1.S, fun _ _ _ _ h => h, ?_, ?_, hbox _ rfl (fun b i hb => ⟨hb, id⟩)⟩
      · intro b i hn; exact .inl ⟨Nat.lt_of_lt_of_le hn.1 hc.size, id⟩
      · intro n e t xs fz hl
        have hO := hlk n _ hl
        obtain ⟨fz', h5, _, h6⟩ := hrow1 n _ _ _ _ hO
        have := h6 (hns n _ hl) (by rw [hl]; simp); subst this
        obtain ⟨h7, h8⟩ := hc1.froz_reads h5
        exact ⟨hO, h7, h8⟩
    refine (hcall w S1 vs hc1.dom (resolveAVs_rel hop has hr)).mono ?_
    rintro e w' ⟨S', β', O', cs, ws, ns', rfl, hcc, hret, hnd, hres⟩
    have hstep : Core F S' β (over (freezes lk ns) O) w' ∧ (F.rp S1 β (over (freezes lk ns) O) w).le (F.rp S' β (over (freezes lk ns) O) w') := by
      have hkeep : ∀ k, k < w.heap.size → w'.heap[k]? = w.heap[k]? := fun k hk => hcc.keep k hk id
      refine hc1.change (fun _ => False) hcc.os hcc.tape hcc.output hcc.size (fun k hk _ => hkeep k hk) hcc.sf ?_ (fun _ _ => ⟨rfl, rfl⟩) (fun _ _ _ h => h.elim) (fun _ _ _ _ h => h.elim) (fun _ _ _ _ h => h.elim) (fun _ _ _ _ _ _ _ h => h.elim) ?_ hcc.dom ?_ (fun _ _ _ _ _ _ _ h => h.elim)
      · intro b i v hs hv; rw [← hv]; exact cellAt_block (hkeep b (hc1.dom b i hs))
      · intro b i hs
        rcases hcc.fresh b i hs with h | h | h
        · exact .inl h
        · exact .inr (.inr (.inl (Nat.le_trans hc.size h)))
        · exact h.elim
      · intro b i n o1 off hs hO hl hb
        have hlt : b < w.heap.size := ObjR_block (hc1.obj n o1 hO) hl hb
        rcases hcc.fresh b i hs with h | h | h
        · exact hc1.still b i n o1 off h hO hl hb
        · exact absurd hlt (by have : w.heap.size ≤ b := h; omega)
        · exact h.elim
    obtain ⟨hc2, le2⟩ := hstep
    obtain ⟨β2, h3, h4, h5, _, h6⟩ := import_ret (F := F) (w := w) (Fc := ⟨w, fun _ => False, S1⟩) hcc (fun _ => id) rfl hc.size true (S2 := S') (.inl ⟨rfl, fun _ _ => Iff.rfl⟩) (d := d) hc2
      (fun n o b off h1 h2 h3 => .inl (ObjR_block (hc1.obj n o h1) h2 h3)) ((c.ret g).flatMap (·.2)) r cs ns' 0 (by rw [← hsh]; exact hret) hnd (fun h => by cases h) (by
        intro i hi
        have := hfr i hi
        unfold over
        have hnone : lkp (freezes lk ns) i = none := by
          cases hl : lkp (freezes lk ns) i with
          | none => rfl
          | some o =>
            exfalso
            have : ∀ ns, (lkp (freezes lk ns) i).isSome = true → O i ≠ none := by
              intro ns
              induction ns with
              | nil => intro h; cases h
              | cons m ns ih =>
                unfold freezes
                split
                · rename_i e0 t0 xs0 hm
                  rw [lkp_cons]
                  split
                  · rename_i e1; subst e1; intro _; rw [hlk _ _ hm]; simp
                  · exact ih
                · exact ih
            exact this ns (by rw [hl]; rfl) ‹O i = none›
        rw [hnone]; exact this)
    rw [← hu, over_append]
    refine ⟨_, S', β2, rfl, h3, ?_, groupAV_rel (unpack_sizes _ _ _ _) h6 hres hv⟩
    refine le_trans_same (le_trans_same le1 le2 (fun _ _ _ _ _ _ => rfl)) h4 ?_
    intro n o1 o2 ho1 _ _
    simp only [Fr.rp] at ho1 ⊢
    refine h5 n ?_
    intro hno
    obtain ⟨o3, ho3, _⟩ := le1.obj n o1 ho1
    simp only [Fr.rp] at ho3
    rw [hno] at ho3; cases ho3
  | false =>
    rw [hsh] at hu; simp only [cond_false, List.append_nil] at hu
    have hop : Opens (F.rp S β O w) (Fr.rp ⟨w, fun _ => False, fun b _ => b < w.heap.size⟩ (fun b _ => b < w.heap.size) noBase (fun _ => none) w) lk := by
      refine ⟨hc.dom, fun _ _ _ _ h => h, ?_, ?_, hbox _ rfl (fun b i hb => ⟨hb, id⟩)⟩
      · intro b i hn; exact .inl ⟨Nat.lt_of_lt_of_le hn.1 hc.size, id⟩
      · intro n e t xs fz hl
        have hO := hlk n _ hl
        refine ⟨hO, ?_⟩
        rcases hc.obj n _ hO with ⟨h1, rfl⟩ | ⟨b, o0, arr, cs, rest, h1, h2, h3, h4, h5, _⟩
        · exact ⟨Nat.zero_le _, .inl rfl⟩
        · refine ⟨h3, .inr ⟨b, o0, cs, h1, ?_, ?_⟩⟩
          · exact RdsOf_mono (fun _ _ => Rd_mono (fun b i hs => hc.dom b i hs) (fun _ _ _ _ h => h) t) h5
          · simp only [Fr.rp] at h2
            exact At_of_block h2 h4 (fun j _ => (Array.getElem?_eq_some_iff.1 h2).1)
    refine (hcall w (fun b _ => b < w.heap.size) vs (fun b i h => h) (resolveAVs_rel hop has hr)).mono ?_
    rintro e w' ⟨S', β', O', cs, ws, ns', rfl, hcc, hret, hnd, hres⟩
    have hkeep : ∀ k, k < w.heap.size → w'.heap[k]? = w.heap[k]? := fun k hk => hcc.keep k hk id
    have hstep : Core F S β O w' ∧ (F.rp S β O w).le (F.rp S β O w') := by
      refine hc.change (fun _ => False) hcc.os hcc.tape hcc.output hcc.size (fun k hk _ => hkeep k hk) (fun _ _ h => h) ?_ (fun _ _ => ⟨rfl, rfl⟩) (fun _ _ _ h => h.elim) (fun _ _ _ _ h => h.elim) (fun _ _ _ _ h => h.elim) (fun _ _ _ _ _ _ _ h => h.elim) (fun _ _ h => .inl h) ?_ hc.still (fun _ _ _ _ _ _ _ h => h.elim)
      · intro b i v hs hv; rw [← hv]; exact cellAt_block (hkeep b (hc.dom b i hs))
      · intro b i hs; exact Nat.lt_of_lt_of_le (hc.dom b i hs) hcc.size
    obtain ⟨hc2, le2⟩ := hstep
    obtain ⟨β2, h3, h4, h5, _, h6⟩ := import_ret (F := F) (w := w) (Fc := ⟨w, fun _ => False, fun b _ => b < w.heap.size⟩) hcc (fun _ => id) rfl hc.size false (S2 := S) (.inr ⟨rfl, hc.dom⟩) (d := d) hc2
      (fun n o b off h1 h2 h3 => .inl (hrowblk n o b off h1 h2 h3)) ((c.ret g).flatMap (·.2)) r cs ns' 0 (by rw [← hsh]; exact hret) hnd (fun _ => hsh) (by
        intro i hi
        exact hfr i hi)
    rw [← hu]
    refine ⟨_, S, β2, rfl, h3, ?_, groupAV_rel (unpack_sizes _ _ _ _) h6 hres hv⟩
    refine le_trans_same le2 h4 ?_
    intro n o1 o2 ho1 _ _
    simp only [Fr.rp] at ho1 ⊢
    exact h5 n (by rw [ho1]; simp)
end
end Go.Proofs.R

/- Ranges over strings. -/
namespace Go.Proofs.R
open Go

section
variable {P : Program} {c : Ctx}
variable {F : Fr} {S : CellSet} {β : Nat → Place} {O : Nat → Option AObj} {w : World} {a : Act} {σ : List (Nat × AV)} {o : Oper} {next : Act → World → Prop} {Q : Exit → Act → World → Prop}

theorem range_ok (hE : EnvOk P c) (hc : Core F S β O w) (hs : Slots (F.rp S β O w) (lkp σ) a.tmps) {T : TypeId} {X : Operand} (ho : o.op = .range T X) (hT : strOk c T = true) {s : ByteArray} (hx : gv c σ X 0 = some (.one (.v .str s)))
    {n : Nat} (hnew : O n = none) (hn : After F S β O (over [(n, .iter s 0)] O) w (.one (.ref n 0)) o a next) : o.wp P a w next Q := by
  have hv := rel_str (gv_rel hE hs hx)
  have hu := strOk_spec hE hT
  obtain ⟨h1, h2⟩ := hc.new hnew (.iter s 0) (by intro e t xs hh; cases hh) (.stringIter s 0) 0 (by
    intro q hq hb hw
    exact ⟨w.heap.size, by rw [hb], hw⟩)
  refine wp_value (v := .pointer (some ⟨w.heap.size, 0, none⟩)) (w' := { w with heap := w.heap.push (.stringIter s 0) }) ?_ ?_
  · simp [execOp, ho, Instr.range, run_underlying hu, hv]
  · rw [over_cons, over_nil] at hn
    refine hn _ _ _ _ h1 h2 (.inr ?_)
    unfold RelL
    simp only [Fr.rp, upd_same]
    exact ⟨w.heap.size, rfl, rfl⟩

/-- an object that is no row changes to one that is none -/
theorem Core.writeObj (h : Core F S β O w) {n : Nat} {o o' : AObj} (hn : O n = some o) (hl : o.live = true) (hto : o.to o') (hl' : o'.live = true)
    {b off : Nat} (hb : (β n).1 = some (b, off)) (hfz : ∀ e t xs, o ≠ .row e t xs true) (hfz' : ∀ e t xs, o' ≠ .row e t xs true) (blk : Obj)
    (hobj : ∀ q : RP, (F.rp S β O w).le q → q.β n = β n → q.w = { w with heap := w.heap.setIfInBounds b blk } → ObjR q n o') :
    Core F S β (upd O n (some o')) { w with heap := w.heap.setIfInBounds b blk } ∧ (F.rp S β O w).le (F.rp S β (upd O n (some o')) { w with heap := w.heap.setIfInBounds b blk }) := by
  have hno : ∀ i, ¬ S b i := by
    intro i hs
    obtain ⟨e, t, xs, rfl, _⟩ := h.still b i n o off hs hn hl hb
    exact hfz _ _ _ rfl
  have hother : ∀ k, k ≠ b → ({ w with heap := w.heap.setIfInBounds b blk } : World).heap[k]? = w.heap[k]? := fun k hk => Array.getElem?_setIfInBounds_ne (Ne.symm hk)
  refine h.change (fun m => m = n) rfl rfl rfl (by simp) ?_ (fun _ _ h => h) ?_ ?_ ?_ ?_ ?_ ?_ (fun _ _ h => .inl h) ?_ ?_ ?_
  · intro k _ hk
    refine hother k ?_
    rintro rfl
    exact hk n o off hn hl rfl hb
  · intro b' i v hs hc
    rw [← hc]
    refine cellAt_block (hother b' ?_)
    rintro rfl; exact hno i hs
  · intro m hm; exact ⟨upd_ne _ _ _ _ hm, rfl⟩
  · rintro m o1 hO rfl
    rw [hn] at hO; cases hO
    exact ⟨o', upd_same _ _ _, hto, fun _ => rfl⟩
  · rintro le m o1 hO rfl
    rw [upd_same] at hO; cases hO
    exact hobj _ le rfl rfl
  · rintro m o1 b' off' rfl hO _ hb'
    exact h.far m o b' off' hn hl hb'
  · rintro m m' o1 o2 b1 x y rfl h1 h2 hl1 hl2 hb1 hb2
    by_cases e : m' = m
    · exact e.symm
    · rw [upd_ne _ _ _ _ e] at h2
      exact h.apart m m' o o2 b1 x y hn h2 hl hl2 hb1 hb2
  · intro b' i hs; have := h.dom b' i hs; simpa using this
  · intro b' i m o1 off' hs hO hl1 hb1
    by_cases e : m = n
    · subst e
      rw [hb] at hb1; simp only [Option.some.injEq, Prod.mk.injEq] at hb1; obtain ⟨rfl, rfl⟩ := hb1
      exact (hno i hs).elim
    · rw [upd_ne _ _ _ _ e] at hO
      exact h.still b' i m o1 off' hs hO hl1 hb1
  · rintro m e t xs b1 off1 i rfl hO
    rw [upd_same] at hO; cases hO
    exact (hfz' _ _ _ rfl).elim

theorem next_ok (hE : EnvOk P c) (hc : Core F S β O w) (hs : Slots (F.rp S β O w) (lkp σ) a.tmps) {X : Operand} (ho : o.op = .next X true) {n : Nat} (hx : gv c σ X 0 = some (.one (.ref n 0))) {s : ByteArray} {pos : Nat} (hO : O n = some (.iter s pos))
    (hn1 : pos < s.size → After F S β O (over [(n, .iter s (nextAt s pos))] O) w (.tup [(false, [.v .bool true]), (false, [.v (.int .i64) (pos : Int)]), (false, [.v (.int .i32) (runeAt s pos)])]) o a next)
    (hn2 : ¬ pos < s.size → After F S β O (over [] O) w (.tup [(false, [.v .bool false])]) o a next) : o.wp P a w next Q := by
  have hv := gv_rel hE hs hx
  rcases hv with hv | hv
  · cases hv
  unfold RelL at hv
  rw [show (F.rp S β O w).O n = some (.iter s pos) from hO] at hv
  obtain ⟨b, hb, hv⟩ := hv
  simp only [List.cons.injEq, and_true] at hv
  obtain ⟨b', hb', hw⟩ := hc.obj n _ hO
  rw [hb] at hb'; simp only [Option.some.injEq, Prod.mk.injEq, and_true] at hb'; subst hb'
  simp only [Fr.rp] at hb hw
  have hget : (getObj b).run P w = .ok (.stringIter s pos) w := by simp [getObj, Sem.run, hw]
  have hset : ∀ ob, (setObj b ob).run P w = .ok () { w with heap := w.heap.setIfInBounds b ob } := by intro ob; simp [setObj, Sem.run, hw]
  by_cases hp : pos < s.size
  · obtain ⟨h1, h2⟩ := hc.writeObj hO rfl (o' := .iter s (nextAt s pos)) (.inr ⟨_, _, rfl⟩) rfl hb (by intro e t xs hh; cases hh) (by intro e t xs hh; cases hh) (.stringIter s (nextAt s pos)) (by
      intro q _ hqb hqw
      refine ⟨b, by rw [hqb]; exact hb, ?_⟩
      rw [hqw]
      exact Array.getElem?_setIfInBounds_self_of_lt (Array.getElem?_eq_some_iff.1 hw).1)
    have hh := hn1 hp
    rw [over_cons, over_nil] at hh
    refine wp_value (v := .tuple #[.bool true, .int .i64 pos, .int .i32 (runeAt s pos)]) ?_ (hh _ _ _ _ h1 h2 ⟨_, rfl, ?_⟩)
    · simp [execOp, ho, Instr.next, hv, hget, hp, hset, nextAt, runeAt, goInt]
    · exact ⟨_, _, rfl, ⟨_, rfl, .inr rfl⟩, _, _, rfl, ⟨_, rfl, .inr rfl⟩, _, _, rfl, ⟨_, rfl, .inr rfl⟩, rfl⟩
  · refine pure_ok hc (v := .tuple #[.bool false]) ?_ ?_ (hn2 hp)
    case refine_2 => exact ⟨_, rfl, _, _, rfl, ⟨_, rfl, .inr rfl⟩, rfl⟩
    simp [execOp, ho, Instr.next, hv, hget, hp]
end
end Go.Proofs.R

/- Functions of the library that work on an object of the caller's: a strings.Builder. -/
namespace Go.Proofs.R
open Go
section
variable {P : Program} {c : Ctx}
variable {F : Fr} {S : CellSet} {β : Nat → Place} {O : Nat → Option AObj} {w : World}

theorem appendOp_lk {ρ : Type} {lk lk1 : Nat → Option AObj} {d : Nat} {T : TypeId} {s x : Lf} {K : AV → Upd → Option ρ} (h1 : ∀ m, s = .row m → lk1 m = lk m) (h2 : ∀ m, x = .row m → lk1 m = lk m) :
    appendOp c lk1 d T s x K = appendOp c lk d T s x K := by
  have hr : rowsOf lk1 x = rowsOf lk x := by
    cases x with
    | v t x => cases t <;> rfl
    | row m => simp only [rowsOf]; rw [h2 _ rfl]
    | _ => rfl
  unfold appendOp
  rw [hr]
  cases s <;> first | rfl | (simp only; rw [h1 _ rfl])

/-- what append may change -/
theorem appendOp_upd {lk : Nat → Option AObj} {d : Nat} {T : TypeId} {s x : Lf} {av : AV} {u : Upd} (h : appendOp c lk d T s x two = some (av, u)) :
    (∃ e t zs, u = [(d * 8, .row e t zs false)] ∧ (∃ e' t', s = .nil e' t') ∧ av = .one (.row (d * 8))) ∨
    ∃ m e e2 t xs fz zs, s = .row m ∧ lk m = some (.row e2 t xs fz) ∧ u = [(m, .dead), (d * 8, .row e t zs fz)] ∧ av = .one (.row (d * 8)) := by
  unfold appendOp at h
  simp only [Option.bind_eq_some_iff] at h
  obtain ⟨te, _, h⟩ := h
  split at h
  · simp only [Option.bind_eq_some_iff] at h
    obtain ⟨ys, _, h⟩ := h
    cases hel : eltOk c T ys.1 with
    | false => rw [hel] at h; cases h
    | true =>
      rw [hel] at h; simp only [cond_true] at h
      split at h
      · rename_i e1 t1
        cases hq : Nat.beq _ e1 with
        | false => rw [hq] at h; cases h
        | true =>
          rw [hq] at h
          simp only [cond_true, bindD, Option.bind_eq_some_iff, two, Option.some.injEq, Prod.mk.injEq] at h
          obtain ⟨_, _, _, _, rfl, rfl⟩ := h
          exact .inl ⟨_, _, _, rfl, ⟨_, _, rfl⟩, rfl⟩
      · split at h
        · rename_i e1 t1 _ _ hl
          cases hq : Nat.beq _ e1 with
          | false => rw [hq] at h; cases h
          | true =>
            rw [hq] at h
            simp only [cond_true, bindD, Option.bind_eq_some_iff, two, Option.some.injEq, Prod.mk.injEq] at h
            obtain ⟨_, _, _, _, rfl, rfl⟩ := h
            exact .inr ⟨_, _, _, _, _, _, _, rfl, hl, rfl, rfl⟩
        · cases h
      · cases h
  · cases h

/-- a builder's two cells -/
theorem box_two (hc : Core F S β O w) {n : Nat} {T : TypeId} {a l : Lf} (hn : O n = some (.box T [a, l])) (ha : a.size = 1) (hl : l.size = 1) :
    ∃ b pa v, (β n).1 = some (b, 0) ∧ w.heap[b]? = some (.cells #[pa, v] T (0, 0)) ∧ RelL (F.rp S β O w) a [pa] ∧ RelL (F.rp S β O w) l [v] := by
  obtain ⟨b, arr, h1, h2, c1, d1, e, h3, c2, d2, e2, h4, h5⟩ := hc.obj n _ hn
  simp only [RelLs] at h5; subst h5
  have l1 := RelL_len a h3
  have l2 := RelL_len l h4
  rw [ha] at l1; rw [hl] at l2
  match c1, l1, c2, l2 with
  | [pa], _, [v], _ =>
    subst e2
    have : arr = #[pa, v] := by
      apply Array.ext'; rw [e]; rfl
    subst this
    exact ⟨b, pa, v, h1, h2, h3, h4⟩

theorem bapp_core (hE : EnvOk P c) (hc : Core F S β O w) {lk : Nat → Option AObj} (hlk : ∀ n o, lk n = some o → O n = some o) {d : Nat} (hd : O (d * 8) = none) {T U X : TypeId} (hX : (slOk c X || strOk c X) = true) {n : Nat} {x : Lf} {vx : Value}
    (hx : ∀ q : RP, (F.rp S β O w).le q → RelL q x [vx]) (hxn : ∀ m, x = .row m → lk m ≠ none ∧ m ≠ n) {r av : AV} {u : Upd} (h : bappOp c lk d T U n x r two = some (av, u)) :
    av = r ∧ ∃ b pa v v' uu w2 S' β', (β n).1 = some (b, 0) ∧ w.heap[b]? = some (.cells #[pa, v] T (0, 0)) ∧ (pa = .pointer none ∨ pa = .pointer (some ⟨b, 0, none⟩)) ∧
      (Builtin.append_ #[U, X] U #[v, vx]).run P (w.setRow b #[.pointer (some ⟨b, 0, none⟩), v]) = .ok v' w2 ∧ (∃ A n m, v' = .slice A n m) ∧ w2.heap[b]? = some (.cells #[.pointer (some ⟨b, 0, none⟩), uu] T (0, 0)) ∧
      Core F S' β' (over u O) (w2.setRow b #[.pointer (some ⟨b, 0, none⟩), v']) ∧ (F.rp S β O w).le (F.rp S' β' (over u O) (w2.setRow b #[.pointer (some ⟨b, 0, none⟩), v'])) := by
  unfold bappOp at h
  split at h
  · rename_i T' a l hn
    cases hb : (Nat.beq T T' && selfOk a n) with
    | false => rw [hb] at h; cases h
    | true =>
      rw [hb] at h; simp only [cond_true] at h
      simp only [Bool.and_eq_true] at hb
      obtain ⟨hT, hself⟩ := hb
      have hT := Nat.eq_of_beq_eq_true hT
      subst hT
      rw [appendOp_nat] at h
      simp only [Option.bind_eq_some_iff] at h
      obtain ⟨⟨av0, u0⟩, happ, h⟩ := h
      have hO := hlk n _ hn
      have hup := appendOp_upd happ
      have hasz : a.size = 1 := by
        unfold selfOk at hself
        split at hself
        · rfl
        · rfl
        · cases hself
      have hlsz : l.size = 1 := by
        rcases hup with ⟨_, _, _, _, ⟨_, _, rfl⟩, _⟩ | ⟨_, _, _, _, _, _, _, rfl, _⟩ <;> rfl
      obtain ⟨b, pa, v, hb1, hb2, hpa, hv⟩ := box_two hc hO hasz hlsz
      have hpa' : pa = .pointer none ∨ pa = .pointer (some ⟨b, 0, none⟩) := by
        unfold selfOk at hself
        split at hself
        · simp only [RelL, List.cons.injEq, and_true] at hpa; exact .inl hpa
        · rename_i m
          have := Nat.eq_of_beq_eq_true hself
          subst this
          unfold RelL at hpa; simp only [Fr.rp] at hpa; rw [hO] at hpa; simp only at hpa
          obtain ⟨b', h3, h4⟩ := hpa
          rw [hb1] at h3; simp only [Option.some.injEq, Prod.mk.injEq, and_true] at h3; subst h3
          simp only [List.cons.injEq, and_true] at h4
          exact .inr h4
        · cases hself
      have hselfrel : RelL (F.rp S β O w) (.ref n 0) [.pointer (some ⟨b, 0, none⟩)] := by
        unfold RelL; simp only [Fr.rp]; rw [hO]; exact ⟨b, hb1, rfl⟩
      -- the mark
      obtain ⟨hc1, le1⟩ := hc.write hO rfl (o' := .box T [.ref n 0, l]) (.inr ⟨_, _, rfl⟩) rfl hb1 (by intro e t xs hh; cases hh) (by intro e t xs hh; cases hh) #[.pointer (some ⟨b, 0, none⟩), v] (by
        intro q hle hbq hwq
        refine ⟨b, #[.pointer (some ⟨b, 0, none⟩), v], by rw [hbq]; exact hb1, by rw [hwq]; exact setRow_heap w b _ _ T (0, 0) hb2, [_], [v], rfl, RelL_le hle _ hselfrel, [v], [], rfl, RelL_le hle _ hv, rfl⟩)
      -- the append
      have hmn : ∀ m, l = .row m → m ≠ n := by
        rintro m rfl rfl
        rcases hup with ⟨_, _, _, _, ⟨_, _, he⟩, _⟩ | ⟨_, _, _, _, _, _, _, he, hm, _⟩
        · cases he
        · cases he; rw [hn] at hm; cases hm
      have hdn : d * 8 ≠ n := by rintro rfl; rw [hO] at hd; cases hd
      have hlk1 : ∀ m o, (fun m => if m = n then none else lk m) m = some o → upd O n (some (.box T [.ref n 0, l])) m = some o := by
        intro m o hm
        simp only at hm
        split at hm
        · cases hm
        · rename_i hne; rw [upd_ne _ _ _ _ hne]; exact hlk m o hm
      have happ1 : appendOp c (fun m => if m = n then none else lk m) d U l x two = some (av0, u0) := by
        rw [← happ]
        refine appendOp_lk ?_ ?_
        · intro m hm; show (if m = n then none else lk m) = _; rw [if_neg (hmn m hm)]
        · intro m hm; show (if m = n then none else lk m) = _; rw [if_neg (hxn m hm).2]
      obtain ⟨v', w2, S', β', hrun, hc2, le2, hav⟩ := appendOp_run hE hc1 hlk1 (by rw [upd_ne _ _ _ _ hdn]; exact hd) hX (RelL_le le1 _ hv) (hx _ le1) happ1 U
      -- the new slice
      have hu0n : ∀ O' : Nat → Option AObj, over u0 O' n = O' n := by
        intro O'
        rcases hup with ⟨_, _, _, rfl, _, _⟩ | ⟨m, _, _, _, _, _, _, hl, _, rfl, _⟩
        · rw [over_cons, over_nil, upd_ne _ _ _ _ (Ne.symm hdn)]
        · rw [over_cons, over_cons, over_nil, upd_ne _ _ _ _ (Ne.symm (hmn m hl)), upd_ne _ _ _ _ (Ne.symm hdn)]
      have hO2 : over u0 (upd O n (some (.box T [.ref n 0, l]))) n = some (.box T [.ref n 0, l]) := by rw [hu0n, upd_same]
      have hy : ∃ y, av0 = .one y ∧ y ≠ .undef := by
        rcases hup with ⟨_, _, _, _, _, rfl⟩ | ⟨_, _, _, _, _, _, _, _, _, _, rfl⟩ <;> exact ⟨_, rfl, by simp⟩
      obtain ⟨y, rfl, hyu⟩ := hy
      have hyrel := hav.resolve_left hyu
      have hslice : ∃ A n m, v' = .slice A n m := by
        unfold RelL at hyrel
        rcases hup with ⟨_, _, _, rfl, _, hy⟩ | ⟨m, _, _, _, _, _, _, hl, _, rfl, hy⟩
        · cases hy
          simp only [Fr.rp] at hyrel
          rw [over_cons, over_nil, upd_same] at hyrel
          simp only [List.cons.injEq, and_true] at hyrel
          exact ⟨_, _, _, hyrel⟩
        · cases hy
          have hmd : d * 8 ≠ m := by
            rintro rfl
            rw [hlk _ _ ‹lk (d * 8) = _›] at hd; cases hd
          simp only [Fr.rp] at hyrel
          rw [over_cons, over_cons, over_nil, upd_ne _ _ _ _ hmd, upd_same] at hyrel
          simp only [List.cons.injEq, and_true] at hyrel
          exact ⟨_, _, _, hyrel⟩
      obtain ⟨b2, pa2, v2, g1, g2, g3, _⟩ := box_two hc2 hO2 rfl hlsz
      have hbb : b2 = b := by
        obtain ⟨o', ho', _, hβ⟩ := le2.obj n _ (show (F.rp S β (upd O n (some (.box T [.ref n 0, l]))) (w.setRow b #[.pointer (some ⟨b, 0, none⟩), v])).O n = _ from upd_same _ _ _)
        simp only [Fr.rp] at ho' hβ
        rw [hO2] at ho'; cases ho'
        rw [hβ rfl, hb1] at g1; simpa using g1.symm
      subst hbb
      have hpa2 : pa2 = .pointer (some ⟨b2, 0, none⟩) := by
        unfold RelL at g3; simp only [Fr.rp] at g3; rw [hO2] at g3; simp only at g3
        obtain ⟨b', h3, h4⟩ := g3
        rw [g1] at h3; simp only [Option.some.injEq, Prod.mk.injEq, and_true] at h3; subst h3
        simpa using h4
      subst hpa2
      have hself2 : RelL (F.rp S' β' (over u0 (upd O n (some (.box T [.ref n 0, l])))) w2) (.ref n 0) [.pointer (some ⟨b2, 0, none⟩)] := g3
      obtain ⟨hc3, le3⟩ := hc2.write hO2 rfl (o' := .box T [.ref n 0, y]) (.inr ⟨_, _, rfl⟩) rfl g1 (by intro e t xs hh; cases hh) (by intro e t xs hh; cases hh) #[.pointer (some ⟨b2, 0, none⟩), v'] (by
        intro q hle hbq hwq
        refine ⟨b2, #[.pointer (some ⟨b2, 0, none⟩), v'], by rw [hbq]; exact g1, by rw [hwq]; exact setRow_heap w2 b2 _ _ T (0, 0) g2, [_], [v'], rfl, RelL_le hle _ hself2, [v'], [], rfl, RelL_le hle _ hyrel, rfl⟩)
      simp only [two, Option.some.injEq, Prod.mk.injEq] at h
      obtain ⟨rfl, rfl⟩ := h
      have hOO : over ((n, .box T [.ref n 0, y]) :: u0) O = upd (over u0 (upd O n (some (.box T [.ref n 0, l])))) n (some (.box T [.ref n 0, y])) := by
        rw [over_cons]
        funext k
        by_cases hk : k = n
        · subst hk; rw [upd_same, upd_same]
        · rw [upd_ne _ _ _ _ hk, upd_ne _ _ _ _ hk]
          unfold over
          rw [upd_ne _ _ _ _ hk]
      rw [hOO]
      refine ⟨rfl, b2, pa, v, v', v2, w2, S', β', hb1, hb2, hpa', hrun, hslice, g2, hc3, ?_⟩
      refine le_trans_same (le_trans_same le1 le2 ?_) le3 (fun _ _ _ _ _ _ => ?_)
      · intro k o o' hk hk' hlive
        obtain ⟨o1, ho1, _, hβ⟩ := le1.obj k o hk
        obtain ⟨o2, ho2, _, hβ2⟩ := le2.obj k o1 ho1
        simp only [Fr.rp] at hk' ho2 hβ2 ⊢
        rw [hk'] at ho2; cases ho2
        exact hβ2 hlive
      · rename_i k o o' hk hk' hlive
        obtain ⟨o1, ho1, _, hβ⟩ := le1.obj k o hk
        obtain ⟨o2, ho2, hto2, hβ2⟩ := le2.obj k o1 ho1
        obtain ⟨o3, ho3, hto3, _⟩ := le3.obj k o2 ho2
        simp only [Fr.rp] at hk' ho2 ho3 hβ2 ⊢
        rw [hk'] at ho3; cases ho3
        refine hβ2 ?_
        cases o2 with
        | dead => simp only [AObj.to] at hto3; subst hto3; cases hlive
        | _ => rfl
  · cases h

theorem bapp_new {lk : Nat → Option AObj} {d : Nat} {T U : TypeId} {n : Nat} {x : Lf} {r av : AV} {u : Upd} (h : bappOp c lk d T U n x r two = some (av, u)) :
    (∃ o', (d * 8, o') ∈ u) ∧ ∃ a l, lk n = some (.box T [a, l]) := by
  unfold bappOp at h
  split at h
  · rename_i T' a l hn
    cases hb : (Nat.beq T T' && selfOk a n) with
    | false => rw [hb] at h; cases h
    | true =>
      rw [hb] at h; simp only [cond_true] at h
      simp only [Bool.and_eq_true] at hb
      have hT := Nat.eq_of_beq_eq_true hb.1
      subst hT
      rw [appendOp_nat] at h
      simp only [Option.bind_eq_some_iff] at h
      obtain ⟨⟨av0, u0⟩, happ, h⟩ := h
      refine ⟨?_, _, _, hn⟩
      rcases appendOp_upd happ with ⟨_, _, _, rfl, _, rfl⟩ | ⟨_, _, _, _, _, _, _, _, _, rfl, rfl⟩
      · simp only [two, Option.some.injEq, Prod.mk.injEq] at h
        obtain ⟨_, rfl⟩ := h
        exact ⟨_, List.mem_cons_of_mem _ List.mem_cons_self⟩
      · simp only [two, Option.some.injEq, Prod.mk.injEq] at h
        obtain ⟨_, rfl⟩ := h
        exact ⟨_, List.mem_cons_of_mem _ (List.mem_cons_of_mem _ List.mem_cons_self)⟩
  · cases h

theorem push_setRow (w : World) (b : Nat) (cs : Array Value) (o : Obj) (hb : b < w.heap.size) : ({ w with heap := w.heap.push o } : World).setRow b cs = { w.setRow b cs with heap := (w.setRow b cs).heap.push o } := by
  unfold World.setRow
  simp only
  congr 1
  apply Array.ext
  · simp
  · intro i h1 h2
    simp only [Array.getElem_modify, Array.getElem_push, Array.size_modify, Array.size_push] at h1 h2 ⊢
    by_cases hi : i < w.heap.size
    · simp [hi]
    · have : i ≠ b := by omega
      simp [hi, Ne.symm this]

theorem ref_ptr (hc : Core F S β O w) {n : Nat} {T : TypeId} {ls : List Lf} (hn : O n = some (.box T ls)) {b : Nat} (hb : (β n).1 = some (b, 0)) {v : Value} (h : RelAV (F.rp S β O w) (.one (.ref n 0)) v) : v = .pointer (some ⟨b, 0, none⟩) := by
  have h := h.resolve_left (by simp)
  unfold RelL at h; simp only [Fr.rp] at h; rw [hn] at h; simp only at h
  obtain ⟨b', h1, h2⟩ := h
  rw [hb] at h1; simp only [Option.some.injEq, Prod.mk.injEq, and_true] at h1; subst h1
  simpa using h2
theorem args_eq {args : Array Value} {l : List Value} (h : args.toList = l) : args = l.toArray := by
  apply Array.ext'; rw [h]

theorem bwrite_ok (hE : EnvOk P c) (hc : Core F S β O w) {lk : Nat → Option AObj} (hlk : ∀ n o, lk n = some o → O n = some o) {d : Nat} {f : FuncId} {T U X : TypeId} (hk : c.intr f = some (.bwrite T U X)) {vs : List AV} {args : Array Value}
    (hr : RelAVs (F.rp S β O w) vs args.toList) {av : AV} {u : Upd} (h : intrOp c lk d (.bwrite T U X) vs two = some (av, u)) (hnew : ∀ n o', (n, o') ∈ u → n / 8 = d → n % 8 < 5 → O n = none) :
    Calls P f args w fun e w' => ∃ v S' β', e = .returned v ∧ Core F S' β' (over u O) w' ∧ (F.rp S β O w).le (F.rp S' β' (over u O) w') ∧ RelAV (F.rp S' β' (over u O) w') av v := by
  obtain ⟨_, hspec⟩ := hE.intr _ _ hk
  unfold intrOp at h
  split at h
  · rename_i T' U' X' n s heq
    cases heq
    cases hX : strOk c X with
    | false => rw [hX] at h; cases h
    | true =>
      rw [hX] at h; simp only [cond_true] at h
      obtain ⟨⟨o', hm⟩, a, l, hn⟩ := bapp_new h
      have hd := hnew _ _ hm (by omega) (by omega)
      obtain ⟨v1, r1, e1, h1, v2, r2, e2, h2, h3⟩ := hr
      simp only [RelAVs] at h3; subst h3; subst e2
      have hv2 : v2 = .string s := by
        have := h2.resolve_left (by simp)
        simpa [RelL, Rd] using this
      subst hv2
      obtain ⟨rfl, b, pa, v, v', uu, w2, S', β', g1, g2, g3, g4, gs, g5, g6, g7⟩ := bapp_core hE hc hlk hd (X := X) (by rw [hX]; simp) (vx := .string s) (fun q hq => RelL_le hq _ (h2.resolve_left (by simp))) (by intro m hm; cases hm) h
      have hv1 := ref_ptr hc (hlk _ _ hn) g1 h1
      subst hv1
      have := args_eq e1
      subst this
      refine (hspec w w2 b pa v v' uu s g2 g3 g4 gs g5).mono ?_
      rintro e w' ⟨rfl, rfl⟩
      refine ⟨_, S', β', rfl, g6, g7, _, rfl, ?_⟩
      exact ⟨_, _, rfl, ⟨_, rfl, .inr rfl⟩, _, _, rfl, ⟨_, rfl, .inl rfl⟩, rfl⟩
  all_goals first | contradiction | cases h

theorem bbyte_ok (hE : EnvOk P c) (hc : Core F S β O w) {lk : Nat → Option AObj} (hlk : ∀ n o, lk n = some o → O n = some o) {d : Nat} {f : FuncId} {T U X e : TypeId} (hk : c.intr f = some (.bbyte T U X e)) {vs : List AV} {args : Array Value}
    (hr : RelAVs (F.rp S β O w) vs args.toList) {av : AV} {u : Upd} (h : intrOp c lk d (.bbyte T U X e) vs two = some (av, u)) (hnew : ∀ n o', (n, o') ∈ u → n / 8 = d → n % 8 < 5 → O n = none) :
    Calls P f args w fun e w' => ∃ v S' β', e = .returned v ∧ Core F S' β' (over u O) w' ∧ (F.rp S β O w).le (F.rp S' β' (over u O) w') ∧ RelAV (F.rp S' β' (over u O) w') av v := by
  obtain ⟨_, hspec⟩ := hE.intr _ _ hk
  unfold intrOp at h
  split at h
  · contradiction
  · rename_i T' U' X' e' n x heq
    cases heq
    cases hX : slOk c X with
    | false => rw [hX] at h; cases h
    | true =>
      rw [hX] at h; simp only [cond_true] at h
      rw [bappOp_nat] at h
      simp only [Option.bind_eq_some_iff, two, Option.some.injEq, Prod.mk.injEq] at h
      obtain ⟨⟨av1, u1⟩, h, rfl, rfl⟩ := h
      have h : bappOp c (fun k => bif Nat.beq k (d * 8 + 1) then some (.row e (.int .u8) [x] false) else lk k) d T U n (.row (d * 8 + 1)) (.one .undef) two = some (av1, u1) := h
      obtain ⟨⟨o', hm⟩, a, l, hn⟩ := bapp_new h
      have hd := hnew _ _ (List.mem_append_left _ hm) (by omega) (by omega)
      have hd1 := hnew (d * 8 + 1) _ (List.mem_append_right _ List.mem_cons_self) (by omega) (by omega)
      have hne : n ≠ d * 8 + 1 := by
        rintro rfl
        simp only [Nat.beq_refl, cond_true] at hn; cases hn
      have hn' : lk n = some (.box T [a, l]) := by
        have hb : Nat.beq n (d * 8 + 1) = false := by
          cases hq : Nat.beq n (d * 8 + 1)
          · rfl
          · exact absurd (Nat.eq_of_beq_eq_true hq) hne
        rw [hb] at hn; exact hn
      obtain ⟨v1, r1, e1, h1, v2, r2, e2, h2, h3⟩ := hr
      simp only [RelAVs] at h3; subst h3; subst e2
      have hv2 : v2 = .int .u8 x := by
        have := h2.resolve_left (by simp)
        simpa [RelL, Rd] using this
      subst hv2
      obtain ⟨hc1, le1⟩ := hc.new hd1 (.row e (.int .u8) [x] false) (by intro _ _ _ hh; cases hh) (.cells #[.int .u8 x] e (0, 0)) 1 (by
        intro q hq hb hw
        refine .inr ⟨w.heap.size, 0, #[.int .u8 x], [.int .u8 x], [], by rw [hb], hw, by rw [hb]; exact Nat.le_refl _, rfl, ⟨[.int .u8 x], [], rfl, rfl, rfl⟩, by rw [hb]; exact Nat.le_refl _, Nat.zero_le _, ?_⟩
        intro v hv; simp at hv; subst hv; rfl)
      have hx : RelL (F.rp S (upd β (d * 8 + 1) (some (w.heap.size, 0), 1)) (upd O (d * 8 + 1) (some (.row e (.int .u8) [x] false))) { w with heap := w.heap.push (.cells #[.int .u8 x] e (0, 0)) }) (.row (d * 8 + 1)) [.slice (some ⟨w.heap.size, 0, none⟩) 1 1] := by
        unfold RelL; simp only [Fr.rp, upd_same]; rfl
      have hlk1 : ∀ m o, (fun k => bif Nat.beq k (d * 8 + 1) then some (AObj.row e (.int .u8) [x] false) else lk k) m = some o → upd O (d * 8 + 1) (some (.row e (.int .u8) [x] false)) m = some o := by
        intro m o hm
        simp only at hm
        cases hq : Nat.beq m (d * 8 + 1)
        · rw [hq] at hm
          have : m ≠ d * 8 + 1 := by rintro rfl; simp [Nat.beq_refl] at hq
          rw [upd_ne _ _ _ _ this]; exact hlk _ _ hm
        · rw [hq] at hm
          rw [Nat.eq_of_beq_eq_true hq, upd_same]; exact hm
      obtain ⟨rfl, b, pa, v, v', uu, w2, S', β', g1, g2, g3, g4, gs, g5, g6, g7⟩ := bapp_core hE hc1 hlk1 (by rw [upd_ne _ _ _ _ (by omega)]; exact hd) (X := X) (by rw [hX]; simp) (vx := .slice (some ⟨w.heap.size, 0, none⟩) 1 1) (fun q hq => RelL_le hq _ hx)
        (by intro m hm; cases hm; exact ⟨by simp [Nat.beq_refl], Ne.symm hne⟩) h
      have hOn := hlk _ _ hn'
      rw [upd_ne _ _ _ _ hne] at g1
      obtain ⟨b', arr, k1, k2, _⟩ := hc.obj n _ hOn
      simp only [Fr.rp] at k1 k2
      rw [g1] at k1; simp only [Option.some.injEq, Prod.mk.injEq, and_true] at k1; subst k1
      have hblt : b < w.heap.size := (Array.getElem?_eq_some_iff.1 k2).1
      have hv1 := ref_ptr hc hOn g1 h1
      subst hv1
      have := args_eq e1
      subst this
      have g2' : w.heap[b]? = some (.cells #[pa, v] T (0, 0)) := by
        rw [← g2]; exact (getElem?_push_lt _ _ _ hblt).symm
      rw [push_setRow _ _ _ _ hblt] at g4
      refine (hspec w w2 b pa v v' uu x g2' g3 g4 gs g5).mono ?_
      rintro e0 w' ⟨rfl, rfl⟩
      rw [over_append, over_cons, over_nil]
      refine ⟨_, S', β', rfl, g6, le_trans_same le1 g7 ?_, .inl rfl⟩
      intro k o1 o2 hk hk2 hlive
      obtain ⟨o3, ho3, _, hβ⟩ := le1.obj k o1 hk
      obtain ⟨o4, ho4, hto4, hβ4⟩ := g7.obj k o3 ho3
      simp only [Fr.rp] at hk hk2 ho3 ho4 hβ hβ4 ⊢
      rw [hk2] at ho4; cases ho4
      rw [hβ4 hlive]
      exact upd_ne _ _ _ _ (by rintro rfl; rw [hd1] at hk; cases hk)
  all_goals first | contradiction | cases h

theorem grown_core (hc : Core F S β O w) {w' : World} (h1 : w'.os = w.os) (h2 : w'.tape = w.tape) (h3 : w'.output = w.output) (h4 : w.heap.size ≤ w'.heap.size) (hkeep : ∀ k, k < w.heap.size → w'.heap[k]? = w.heap[k]?) :
    Core F S β O w' ∧ (F.rp S β O w).le (F.rp S β O w') := by
  refine hc.change (fun _ => False) h1 h2 h3 h4 (fun k hk _ => hkeep k hk) (fun _ _ h => h) ?_ (fun _ _ => ⟨rfl, rfl⟩) (fun _ _ _ h => h.elim) (fun _ _ _ _ h => h.elim) (fun _ _ _ _ h => h.elim) (fun _ _ _ _ _ _ _ h => h.elim) (fun _ _ h => .inl h) ?_ hc.still (fun _ _ _ _ _ _ _ h => h.elim)
  · intro b i v hs hv; rw [← hv]; exact cellAt_block (hkeep b (hc.dom b i hs))
  · intro b i hs; exact Nat.lt_of_lt_of_le (hc.dom b i hs) h4

theorem kill_core (hc : Core F S β O w) {m : Nat} {e : TypeId} {t : Ty} {xs : List t.V} (hm : O m = some (.row e t xs false)) {w' : World} (h1 : w'.os = w.os) (h2 : w'.tape = w.tape) (h3 : w'.output = w.output) (h4 : w.heap.size ≤ w'.heap.size)
    (hkeep : ∀ k, k < w.heap.size → (∀ off, (β m).1 ≠ some (k, off)) → w'.heap[k]? = w.heap[k]?) :
    Core F S β (upd O m (some .dead)) w' ∧ (F.rp S β O w).le (F.rp S β (upd O m (some .dead)) w') := by
  refine hc.change (fun k => k = m) h1 h2 h3 h4 (fun k hk hb => hkeep k hk fun off => hb m _ off hm rfl rfl) (fun _ _ h => h) ?_ ?_ ?_ ?_ ?_ ?_ (fun _ _ h => .inl h) ?_ ?_ ?_
  · intro b i v hs hv
    rw [← hv]; refine cellAt_block (hkeep b (hc.dom b i hs) fun off hb => ?_)
    obtain ⟨_, _, _, h, _⟩ := hc.still b i m _ off hs hm rfl hb
    cases h
  · intro k hk; exact ⟨upd_ne _ _ _ _ hk, rfl⟩
  · rintro k o hO rfl
    rw [hm] at hO; cases hO
    exact ⟨.dead, upd_same _ _ _, .inl rfl, fun h => by cases h⟩
  · rintro _ k o hO rfl
    rw [upd_same] at hO; cases hO; trivial
  · rintro k o b off rfl hO hl _
    rw [upd_same] at hO; cases hO; cases hl
  · rintro k j o o' b x y rfl hO _ hl
    rw [upd_same] at hO; cases hO; cases hl
  · intro b i hs; exact Nat.lt_of_lt_of_le (hc.dom b i hs) h4
  · intro b i k o off hs hO hl hb
    by_cases hk : k = m
    · subst hk; rw [upd_same] at hO; cases hO; cases hl
    · rw [upd_ne _ _ _ _ hk] at hO; exact hc.still b i k o off hs hO hl hb
  · rintro k e t xs b off i rfl hO
    rw [upd_same] at hO; cases hO

theorem bytes_cells {S : CellSet} {w : World} : ∀ {cs : List Value} {xs : List Int}, RdsOf (Rd S w (.int .u8)) cs xs → (∀ x ∈ xs, 0 ≤ x ∧ x < 256) → cs = (xs.map fun n => UInt8.ofNat n.toNat).map fun b => .int .u8 (b.toNat : Int)
  | _, [], h, _ => h
  | _, x :: xs, ⟨c, d, e, h1, h2⟩, hb => by
    subst e
    have hx := hb x (by simp)
    simp only [Rd] at h1; subst h1
    rw [bytes_cells h2 (fun y hy => hb y (by simp [hy]))]
    have : ((UInt8.ofNat x.toNat).toNat : Int) = x := by
      rw [UInt8.toNat_ofNat']; omega
    simp only [List.map_cons, List.singleton_append, this]

theorem bstr_ok (hE : EnvOk P c) (hc : Core F S β O w) {lk : Nat → Option AObj} (hlk : ∀ n o, lk n = some o → O n = some o) {d : Nat} {f : FuncId} {T e : TypeId} (hk : c.intr f = some (.bstr T e)) {vs : List AV} {args : Array Value}
    (hr : RelAVs (F.rp S β O w) vs args.toList) {av : AV} {u : Upd} (h : intrOp c lk d (.bstr T e) vs two = some (av, u)) :
    Calls P f args w fun e w' => ∃ v S' β', e = .returned v ∧ Core F S' β' (over u O) w' ∧ (F.rp S β O w).le (F.rp S' β' (over u O) w') ∧ RelAV (F.rp S' β' (over u O) w') av v := by
  obtain ⟨_, hspec⟩ := hE.intr _ _ hk
  unfold intrOp at h
  split at h
  · contradiction
  · contradiction
  · rename_i T' e' n heq
    cases heq
    unfold bstrOp at h
    split at h
    · rename_i T' a l hn
      cases hb : (Nat.beq T T' && selfOk a n) with
      | false => rw [hb] at h; cases h
      | true =>
        rw [hb] at h; simp only [cond_true] at h
        simp only [Bool.and_eq_true] at hb
        obtain ⟨hT, hself⟩ := hb
        have hT := Nat.eq_of_beq_eq_true hT
        subst hT
        have hO := hlk n _ hn
        have hasz : a.size = 1 := by
          unfold selfOk at hself
          split at hself
          · rfl
          · rfl
          · cases hself
        obtain ⟨v1, r1, e1, h1, h3⟩ := hr
        simp only [RelAVs] at h3; subst h3
        split at h
        · rename_i e0 t0
          simp only [two, Option.some.injEq, Prod.mk.injEq] at h
          obtain ⟨rfl, rfl⟩ := h
          obtain ⟨b, pa, v, g1, g2, _, g4⟩ := box_two hc hO hasz rfl
          have hv1 := ref_ptr hc hO g1 h1
          subst hv1
          have := args_eq e1
          subst this
          simp only [RelL, List.cons.injEq, and_true] at g4
          refine (hspec w b pa v [] (by simp) g2 (.inl ⟨g4, rfl⟩)).mono ?_
          rintro e w' ⟨rfl, k1, k2, k3, k4, k5⟩
          obtain ⟨k6, k7⟩ := grown_core hc k1 k2 k3 k4 (fun k hk => k5 k hk fun g o m n hv => by rw [g4] at hv; cases hv)
          rw [over_nil]
          exact ⟨_, S, β, rfl, k6, k7, .inr rfl⟩
        · rename_i m
          split at h
          · rename_i e0 t xs hm
            cases he : Nat.beq e e0 with
            | false => rw [he] at h; cases h
            | true =>
              rw [he] at h
              have he := Nat.eq_of_beq_eq_true he
              subst he
              simp only [cond_true, bindD, Option.bind_eq_some_iff, two, Option.some.injEq, Prod.mk.injEq] at h
              obtain ⟨ys, hys, st, hst, rfl, rfl⟩ := h
              obtain ⟨et, hys⟩ := castV_len hys
              cases et
              have hys : xs = ys := hys
              subst hys
              unfold bytesOf at hst
              split at hst
              · rename_i hall
                simp only [Bool.and_eq_true] at hall
                obtain ⟨hall, hlen⟩ := hall
                have hlen := Nat.le_of_ble_eq_true hlen
                simp only [Option.some.injEq] at hst
                subst hst
                have hall : ∀ x ∈ xs, 0 ≤ x ∧ x < 256 := by
                  intro x hx
                  have := List.all_eq_true.1 hall x hx
                  simpa using this
                obtain ⟨b, pa, v, g1, g2, _, g4⟩ := box_two hc hO hasz rfl
                have hv1 := ref_ptr hc hO g1 h1
                subst hv1
                have := args_eq e1
                subst this
                have hOm := hlk m _ hm
                unfold RelL at g4; simp only [Fr.rp] at g4; rw [hOm] at g4; simp only [List.cons.injEq, and_true] at g4
                have hrow := hc.obj m _ hOm
                have hsp : (v = .slice none 0 0 ∧ (xs.map fun n => UInt8.ofNat n.toNat) = []) ∨ ∃ g o cap arr rest, g ≠ b ∧ v = .slice (some ⟨g, o, none⟩) (xs.map fun n => UInt8.ofNat n.toNat).length cap ∧ w.heap[g]? = some (.cells arr e (0, 0)) ∧
                    (xs.map fun n => UInt8.ofNat n.toNat).length ≤ cap ∧ arr.toList.drop o = ((xs.map fun n => UInt8.ofNat n.toNat).map fun x => .int .u8 x.toNat) ++ rest ∧ o + cap ≤ arr.size := by
                  rcases hrow with ⟨q1, rfl⟩ | ⟨g, o, arr, cs, rest, q1, q2, q3, q4, q5, q6, _⟩
                  · simp only [Fr.rp] at q1
                    exact .inl ⟨by rw [g4, q1]; rfl, rfl⟩
                  · simp only [Fr.rp] at q1 q2 q3 q5 q6
                    refine .inr ⟨g, o, (β m).2, arr, rest, ?_, ?_, q2, by simpa using q3, ?_, by simpa [Ty.size] using q6⟩
                    · rintro rfl
                      have := hc.apart m n _ _ g o 0 hOm hO rfl rfl q1 g1
                      subst this
                      rw [hO] at hOm; cases hOm
                    · rw [g4, q1]; simp [addrOf]
                    · rw [q4, bytes_cells q5 hall]
                refine (hspec w b pa v _ (by simpa using hlen) g2 hsp).mono ?_
                rintro e w' ⟨rfl, k1, k2, k3, k4, k5⟩
                obtain ⟨k6, k7⟩ := kill_core hc hOm k1 k2 k3 k4 (fun k hk hne => k5 k hk fun g o m' n' hv => by
                  rintro rfl
                  rw [g4] at hv
                  cases hq : (β m).1 with
                  | none => rw [hq] at hv; cases hv
                  | some p =>
                    rw [hq] at hv
                    simp only [addrOf, Value.slice.injEq, Option.some.injEq, Addr.mk.injEq] at hv
                    obtain ⟨⟨rfl, rfl, _⟩, _⟩ := hv
                    exact hne p.2 hq)
                rw [over_cons, over_nil]
                exact ⟨_, S, β, rfl, k6, k7, .inr rfl⟩
              · cases hst
          · cases h
        · cases h
    · cases h
  · contradiction
  · cases h

theorem adopt_core (hc : Core F S β O w) {d g cap : Nat} {e : TypeId} {t : Ty} {arr : Array Value} (hd : O d = none) {w' : World} (h1 : w'.os = w.os) (h2 : w'.tape = w.tape) (h3 : w'.output = w.output) (h4 : w.heap.size ≤ w'.heap.size)
    (hkeep : ∀ k, k < w.heap.size → w'.heap[k]? = w.heap[k]?) (hg : w.heap.size ≤ g) (hgh : w'.heap[g]? = some (.cells arr e (0, 0))) (hcap : cap * t.size ≤ arr.size) (hone : ∀ v ∈ arr.toList, v.oneCell' = true) :
    Core F S (upd β d (some (g, 0), cap)) (upd O d (some (.row e t [] false))) w' ∧ (F.rp S β O w).le (F.rp S (upd β d (some (g, 0), cap)) (upd O d (some (.row e t [] false))) w') := by
  refine hc.change (fun k => k = d) h1 h2 h3 h4 (fun k hk _ => hkeep k hk) (fun _ _ h => h) ?_ ?_ ?_ ?_ ?_ ?_ (fun _ _ h => .inl h) ?_ ?_ ?_
  · intro b i v hs hv; rw [← hv]; exact cellAt_block (hkeep b (hc.dom b i hs))
  · intro k hk; exact ⟨upd_ne _ _ _ _ hk, upd_ne _ _ _ _ hk⟩
  · rintro k o hO rfl; rw [hd] at hO; cases hO
  · rintro _ k o hO rfl
    rw [upd_same] at hO; cases hO
    refine .inr ⟨g, 0, arr, [], arr.toList, by simp [Fr.rp, upd_same], hgh, by simp, by simp, rfl, ?_, Nat.zero_le _, hone⟩
    simp only [Fr.rp, upd_same]; omega
  · rintro k o b off rfl hO _ hb
    rw [upd_same] at hb
    simp only [Option.some.injEq, Prod.mk.injEq] at hb
    obtain ⟨rfl, _⟩ := hb
    exact .inl (Nat.le_trans hc.size hg)
  · rintro k j o o' b x y rfl hO hO' hl hl' hb hb'
    by_cases hj : j = k
    · exact hj.symm
    · rw [upd_same] at hb
      simp only [Option.some.injEq, Prod.mk.injEq] at hb
      obtain ⟨rfl, _⟩ := hb
      rw [upd_ne _ _ _ _ hj] at hO' hb'
      have := ObjR_block (hc.obj j o' hO') hl' hb'
      exact absurd (show g < w.heap.size from this) (by omega)
  · intro b i hs; exact Nat.lt_of_lt_of_le (hc.dom b i hs) h4
  · intro b i k o off hs hO hl hb
    by_cases hk : k = d
    · subst hk
      rw [upd_same] at hb
      simp only [Option.some.injEq, Prod.mk.injEq] at hb
      obtain ⟨rfl, _⟩ := hb
      have := hc.dom _ _ hs
      omega
    · rw [upd_ne _ _ _ _ hk] at hO hb
      exact hc.still b i k o off hs hO hl hb
  · rintro k e t xs b off i rfl hO
    rw [upd_same] at hO; cases hO

theorem grow_intr_ok (hE : EnvOk P c) (hc : Core F S β O w) {lk : Nat → Option AObj} {d : Nat} {f : FuncId} {T : TypeId} (hk : c.intr f = some (.grow T)) {vs : List AV} {args : Array Value}
    (hr : RelAVs (F.rp S β O w) vs args.toList) {av : AV} {u : Upd} (h : intrOp c lk d (.grow T) vs two = some (av, u)) (hnew : ∀ n o', (n, o') ∈ u → n / 8 = d → n % 8 < 5 → O n = none) :
    Calls P f args w fun e w' => ∃ v S' β', e = .returned v ∧ Core F S' β' (over u O) w' ∧ (F.rp S β O w).le (F.rp S' β' (over u O) w') ∧ RelAV (F.rp S' β' (over u O) w') av v := by
  obtain ⟨_, hspec⟩ := hE.intr _ _ hk
  unfold intrOp at h
  split at h
  · contradiction
  · contradiction
  · contradiction
  · rename_i T' e t n heq
    cases heq
    simp only [Option.bind_eq_some_iff] at h
    obtain ⟨te, hte, h⟩ := h
    split at h
    · rename_i e' hde
      cases hb : (Nat.beq e e' && eltOk c T t) with
      | false => rw [hb] at h; cases h
      | true =>
        rw [hb] at h
        simp only [Bool.and_eq_true] at hb
        obtain ⟨he, hel⟩ := hb
        have he := Nat.eq_of_beq_eq_true he
        subst he
        simp only [cond_true] at h
        by_cases hn : n < 0
        · rw [decide_eq_true hn] at h; cases h
        · rw [decide_eq_false hn] at h
          have h : (bindD (Go.Proofs.R.grow n.toNat) fun _ => two (.one (.row (d * 8))) [(d * 8, .row e t [] false)]) = some (av, u) := h
          simp only [bindD, Option.bind_eq_some_iff, two, Option.some.injEq, Prod.mk.injEq] at h
          obtain ⟨_, hg, rfl, rfl⟩ := h
          have hgl := grow_le hg
          unfold mostLen at hgl
          have hn0 : (0 : Int) ≤ n := Int.not_lt.1 hn
          have hn1 : (n : Int) ≤ 4294967296 := by
            have h4 : ((n : Int).toNat : Int) = n := Int.toNat_of_nonneg hn0
            have h5 : ∀ m : Nat, m ≤ 4294967296 → (m : Int) ≤ 4294967296 := fun m hm => by omega
            rw [← h4]; exact h5 _ hgl
          have hd := hnew _ _ List.mem_cons_self (by omega) (by omega)
          obtain ⟨e1, ee, hTu, hee, hsz, hpos, te', hte', hde'⟩ := eltOk_spec hE hel
          rw [hte] at hte'; cases hte'
          rw [hde] at hde'; cases hde'
          obtain ⟨i, zv, hi, hisz, _⟩ := (hE.te e ee hee).info
          obtain ⟨v1, r1, e1, h1, v2, r2, e2, h2, h3⟩ := hr
          simp only [RelAVs] at h3; subst h3; subst e2
          have hv1 : v1 = .slice none 0 0 := by
            have := h1.resolve_left (by simp)
            simpa [RelL] using this
          have hv2 : v2 = .int .i64 n := by
            have := h2.resolve_left (by simp)
            simpa [RelL, Rd] using this
          subst hv1; subst hv2
          have := args_eq e1
          subst this
          refine (hspec e hTu w n hn0 hn1).mono ?_
          rintro ex w' ⟨A, cap, rfl, k1, k2, k3, k4, k5, k6⟩
          have hov : over [(d * 8, AObj.row e t ([] : List t.V) false)] O = upd O (d * 8) (some (.row e t [] false)) := by rw [over_cons, over_nil]
          rcases k6 with ⟨rfl, rfl⟩ | ⟨g, arr, i', rfl, q1, q2, q3, q4, q5⟩
          · obtain ⟨c1, l1⟩ := grown_core hc k1 k2 k3 k4 k5
            obtain ⟨c2, l2⟩ := c1.newNil (e := e) (t := t) hd
            try rw [hov] at c2 l2
            rw [hov]
            refine ⟨_, _, _, rfl, c2, le_trans_same l1 l2 ?_, .inr ?_⟩
            · intro k o o' hk hk' _
              simp only [Fr.rp] at hk hk' ⊢
              have hkd : k ≠ d * 8 := by rintro rfl; rw [hd] at hk; cases hk
              exact upd_ne _ _ _ _ hkd
            · unfold RelL; simp only [Fr.rp, upd_same]; rfl
          · rw [hi] at q3; cases q3
            obtain ⟨c2, l2⟩ := adopt_core (t := t) hc hd k1 k2 k3 k4 k5 q1 q2 (by rw [← hsz, ← hisz]; exact q4) q5
            rw [hov]
            refine ⟨_, _, _, rfl, c2, l2, .inr ?_⟩
            unfold RelL; simp only [Fr.rp, upd_same]; rfl
    · cases h
  · cases h

theorem intrOp_ok (hE : EnvOk P c) (hc : Core F S β O w) {lk : Nat → Option AObj} (hlk : ∀ n o, lk n = some o → O n = some o) {d : Nat} {f : FuncId} {k : Intr} (hk : c.intr f = some k) {vs : List AV} {args : Array Value}
    (hr : RelAVs (F.rp S β O w) vs args.toList) {av : AV} {u : Upd} (h : intrOp c lk d k vs two = some (av, u)) (hnew : ∀ n o', (n, o') ∈ u → n / 8 = d → n % 8 < 5 → O n = none) :
    (callFunc f args).run P w = .ok (.enter f args) w ∧ Calls P f args w fun e w' => ∃ v S' β', e = .returned v ∧ Core F S' β' (over u O) w' ∧ (F.rp S β O w).le (F.rp S' β' (over u O) w') ∧ RelAV (F.rp S' β' (over u O) w') av v := by
  refine ⟨(hE.intr _ _ hk).1 args w, ?_⟩
  cases k with
  | bwrite T U X => exact bwrite_ok hE hc hlk hk hr h hnew
  | bbyte T U X e => exact bbyte_ok hE hc hlk hk hr h hnew
  | bstr T e => exact bstr_ok hE hc hlk hk hr h
  | grow T => exact grow_intr_ok hE hc hk hr h hnew
end
end Go.Proofs.R

/- Maps with plain keys and values. -/
namespace Go.Proofs.R
open Go

section
variable {P : Program} {c : Ctx}
variable {F : Fr} {S : CellSet} {β : Nat → Place} {O : Nat → Option AObj} {w : World} {a : Act} {σ : List (Nat × AV)} {o : Oper} {next : Act → World → Prop} {Q : Exit → Act → World → Prop}

/-- a type's description, where its values are plain -/
def PlainD : Ty → TypeDesc → Prop
  | .int k, d => d = .int k
  | .bool, d => d = .bool
  | .str, d => d = .string
  | _, _ => False

theorem plainD_of {P : Program} {c : Ctx} {T : TypeId} {te : TE} (h : TOk P c T te) {t : Ty} (ht : tyOfD te.d = some t) : ∃ d, P.underlying T = some d ∧ PlainD t d := by
  have hu := h.under
  unfold tyOfD at ht
  split at ht
  · rename_i k hk; cases ht; rw [hk] at hu; exact ⟨_, hu, rfl⟩
  · rename_i hk; cases ht; rw [hk] at hu; exact ⟨_, hu, rfl⟩
  · rename_i hk; cases ht; rw [hk] at hu; exact ⟨_, hu, rfl⟩
  · cases ht
theorem plain_agg {te : TE} {t : Ty} (ht : tyOfD te.d = some t) : aggOf te = false := by
  unfold tyOfD at ht
  unfold aggOf
  split at ht <;> first | (rename_i h; rw [h]) | cases ht
theorem plain_rd {S : CellSet} {w : World} {t : Ty} {d : TypeDesc} (h : PlainD t d) {x : t.V} {v : Value} (hr : Rd S w t [v] x) : plainV t x = some v := by
  cases t with
  | int k => unfold Rd at hr; simp only [List.cons.injEq, and_true] at hr; rw [hr]; rfl
  | bool => unfold Rd at hr; simp only [List.cons.injEq, and_true] at hr; rw [hr]; rfl
  | str => unfold Rd at hr; simp only [List.cons.injEq, and_true] at hr; rw [hr]; rfl
  | _ => exact h.elim
theorem plain_rd' {S : CellSet} {w : World} {t : Ty} {d : TypeDesc} (h : PlainD t d) {x : t.V} {v : Value} (hr : plainV t x = some v) : Rd S w t [v] x := by
  cases t with
  | int k => simp only [plainV, Option.some.injEq] at hr; subst hr; unfold Rd; rfl
  | bool => simp only [plainV, Option.some.injEq] at hr; subst hr; unfold Rd; rfl
  | str => simp only [plainV, Option.some.injEq] at hr; subst hr; unfold Rd; rfl
  | _ => exact h.elim
theorem plain_checkKey {t : Ty} {d : TypeDesc} (h : PlainD t d) {T : TypeId} (hu : P.underlying T = some d) (e : Bool) (n : Nat) (v : Value) (w : World) : (Instr.checkKey e (n + 1) T v).run P w = .ok () w := by
  unfold Instr.checkKey
  cases t with
  | int k => cases h; simp [run_underlying hu]
  | bool => cases h; simp [run_underlying hu]
  | str => cases h; simp [run_underlying hu]
  | _ => exact h.elim
theorem str_beq (x y : ByteArray) : (x == y) = decide (x = y) := by
  cases x with | mk x => cases y with | mk y =>
  show (x == y) = decide _
  by_cases h : x = y
  · subst h; simp
  · rw [beq_eq_false_iff_ne.2 h, decide_eq_false (fun q => h (by injection q))]
theorem plain_sameNow {t : Ty} {d : TypeDesc} (h : PlainD t d) {x y : t.V} {u v : Value} (hx : plainV t x = some u) (hy : plainV t y = some v) : Instr.sameNow d u v = some (keyEq t x y) := by
  cases t with
  | int k => cases h; cases hx; cases hy; simp only [Instr.sameNow, if_true]; rfl
  | bool => cases h; cases hx; cases hy; cases x <;> cases y <;> rfl
  | str => cases h; cases hx; cases hy; simp only [Instr.sameNow, keyEq]; rw [str_beq]
  | _ => exact h.elim
theorem plain_eq {t : Ty} {d : TypeDesc} (h : PlainD t d) {x y : t.V} {u v : Value} (hx : plainV t x = some u) (hy : plainV t y = some v) (he : keyEq t x y = true) : u = v := by
  cases t with
  | int k => cases hx; cases hy; simp only [keyEq, decide_eq_true_eq] at he; rw [he]
  | bool => cases hx; cases hy; simp only [keyEq, decide_eq_true_eq] at he; rw [he]
  | str => cases hx; cases hy; simp only [keyEq, decide_eq_true_eq] at he; rw [he]
  | _ => exact h.elim
theorem plain_sameBits {t : Ty} {d : TypeDesc} (h : PlainD t d) {x : t.V} {u : Value} (hx : plainV t x = some u) (n : Nat) : Instr.sameBits n u u = true := by
  cases t with
  | int k => cases hx; cases n <;> simp [Instr.sameBits]
  | bool => cases hx; cases n <;> simp [Instr.sameBits]
  | str => cases hx; cases n <;> simp [Instr.sameBits, str_beq]
  | _ => exact h.elim

/-- entries in memory and told ones -/
abbrev EntR (t u : Ty) (es : List MapEntry) (m : List (t.V × u.V)) : Prop := es.map (fun x => (some x.key, some x.val)) = m.map fun x => (plainV t x.1, plainV u x.2)

theorem findNow_ok {t u : Ty} {d : TypeDesc} (h : PlainD t d) (z : u.V) {key : t.V} {kv : Value} (hk : plainV t key = some kv) : ∀ (es : List MapEntry) (m : List (t.V × u.V)) (i : Nat), EntR t u es m →
    (∃ j v e, Instr.findNow d kv es i = some (some (i + j, v)) ∧ es[j]? = some e ∧ e.key = kv ∧ (mget t z key m).2 = true ∧ plainV u (mget t z key m).1 = some v ∧
      ∀ y vy, plainV u y = some vy → EntR t u (es.modify j fun e => { e with key := kv, val := vy }) (mput t key y m)) ∨
    (Instr.findNow d kv es i = some none ∧ mget t z key m = (z, false) ∧ ∀ y vy ck, plainV u y = some vy → EntR t u (es ++ [{ key := kv, val := vy, born := ck }]) (mput t key y m))
  | [], [], i, _ => .inr ⟨rfl, rfl, fun y vy ck hy => by simp [EntR, mput, hk, hy]⟩
  | [], p :: m, i, he => by simp [EntR] at he
  | e :: es, [], i, he => by simp [EntR] at he
  | e :: es, p :: m, i, he => by
    simp only [EntR, List.map_cons, List.cons.injEq, Prod.mk.injEq] at he
    obtain ⟨⟨h1, h2⟩, h3⟩ := he
    have hs := plain_sameNow h hk h1.symm
    cases hq : keyEq t key p.1 with
    | true =>
      refine .inl ⟨0, e.val, e, ?_, rfl, (plain_eq h hk h1.symm hq).symm, ?_, ?_, ?_⟩
      · simp only [Instr.findNow, hs, hq]; rfl
      · simp only [mget, hq, cond_true]
      · simp only [mget, hq, cond_true]; exact h2.symm
      · intro y vy hy
        simp only [EntR, mput, hq, cond_true, List.modify_zero_cons, List.map_cons, hy, h3]
        rw [← h1, plain_eq h hk h1.symm hq]
    | false =>
      rcases findNow_ok h z hk es m (i + 1) h3 with ⟨j, v, e', q1, q2, q3, q4, q5, q6⟩ | ⟨q1, q2, q3⟩
      · refine .inl ⟨j + 1, v, e', ?_, by simpa using q2, q3, ?_, ?_, ?_⟩
        · simp only [Instr.findNow, hs, hq, q1]; congr 2; congr 1; omega
        · simp only [mget, hq, cond_false]; exact q4
        · simp only [mget, hq, cond_false]; exact q5
        · intro y vy hy
          have := q6 y vy hy
          simp only [EntR, mput, hq, cond_false, List.modify_succ_cons, List.map_cons, h1, h2] at this ⊢
          rw [this]
      · refine .inr ⟨?_, ?_, ?_⟩
        · simp only [Instr.findNow, hs, hq, q1]
        · simp only [mget, hq, cond_false]; exact q2
        · intro y vy ck hy
          have := q3 y vy ck hy
          simp only [EntR, mput, hq, cond_false, List.cons_append, List.map_cons, h1, h2] at this ⊢
          rw [this]

theorem mapOk_spec (hE : EnvOk P c) {T k e : TypeId} {t u : Ty} (h : mapOk c T k e t u = true) :
    P.underlying T = some (.map k e) ∧ (∃ ke d, lkp c.te k = some ke ∧ P.underlying k = some d ∧ PlainD t d) ∧ (∃ ve d, lkp c.te e = some ve ∧ tyOfD ve.d = some u ∧ P.underlying e = some d ∧ PlainD u d) := by
  unfold mapOk at h
  split at h
  · rename_i te ke ve h1 h2 h3
    simp only [Bool.and_eq_true, decide_eq_true_eq] at h
    obtain ⟨⟨h4, h5⟩, h6⟩ := h
    split at h4
    · rename_i k' e' hd
      simp only [Bool.and_eq_true, Nat.beq_eq] at h4
      obtain ⟨rfl, rfl⟩ := h4
      have hu := (hE.te T te h1).under
      rw [hd] at hu
      obtain ⟨d, hd1, hd2⟩ := plainD_of (hE.te _ ke h2) h5
      obtain ⟨d', hd3, hd4⟩ := plainD_of (hE.te _ ve h3) h6
      exact ⟨hu, ⟨ke, d, h2, hd1, hd2⟩, ⟨ve, d', h3, h6, hd3, hd4⟩⟩
    · cases h4
  · cases h

theorem map_val {p : RP} {n : Nat} {k e : TypeId} {t u : Ty} {m : List (t.V × u.V)} (hO : p.O n = some (.mp k e t u m)) {v : Value} (h : RelAV p (.one (.mp n)) v) : ∃ b, (p.β n).1 = some (b, 0) ∧ v = .map (some b) := by
  rcases h with h | h
  · cases h
  unfold RelL at h
  rw [hO] at h
  obtain ⟨b, hb, hv⟩ := h
  simp only [List.cons.injEq, and_true] at hv
  exact ⟨b, hb, hv⟩
theorem plain_val {p : RP} {t t' : Ty} {x : t'.V} {y : t.V} {v : Value} (h : RelAV p (.one (.v t' x)) v) (hc : castV t' t x = some y) {d : TypeDesc} (hp : PlainD t d) : plainV t y = some v := by
  obtain ⟨rfl, rfl⟩ := castV_eq hc
  rcases h with h | h
  · cases h
  · unfold RelL at h; exact plain_rd hp h

theorem zero_plain (hE : EnvOk P c) {e : TypeId} {ve : TE} (hl : lkp c.te e = some ve) {u : Ty} (ht : tyOfD ve.d = some u) {d : TypeDesc} (hp : PlainD u d) {z : u.V × List Lf} (hz : toTy u ve.z = some z) (w : World) :
    ∃ v, (zeroValue e).run P w = .ok v w ∧ plainV u z.1 = some v := by
  have hT := hE.te e ve hl
  obtain ⟨i, zv, hi, hisz, hib, hiz, hzr, hz1, hzs⟩ := hT.info
  have ha := plain_agg ht
  have hcells := cells_one (hT.zone ha i zv hi hiz)
  have hsz : u.size = 1 := by cases u <;> first | rfl | exact hp.elim
  have h1 := toTy_rel (p := ⟨fun _ _ => False, w, fun _ _ => False, fun _ => (none, 0), fun _ => none⟩) u (x := z.1) (r := z.2) (by rw [hz]) (hzr _)
  refine ⟨zv, by simp [zeroValue, typeInfo, hi, hiz, Sem.run_bind, Result.andThen_ok], ?_⟩
  rw [hcells] at h1
  obtain ⟨c1, d1, hcd, h2, h3⟩ := h1
  have : c1 = [zv] := by
    have hone : c1.length = 1 := by
      cases u <;> first | exact hp.elim | (unfold Rd at h2; rw [h2]; rfl)
    rcases c1 with _ | ⟨a, _ | ⟨b, r⟩⟩ <;> simp_all
  subst this
  exact plain_rd hp h2

theorem makeMap_ok (hE : EnvOk P c) (hc : Core F S β O w) {T k e : TypeId} {t u : Ty} (ho : o.op = .makeMap T none) {d : Nat} (hnew : O d = none)
    (hn : After F S β O (over [(d, .mp k e t u [])] O) w (.one (.mp d)) o a next) : o.wp P a w next Q := by
  obtain ⟨h1, h2⟩ := hc.new hnew (.mp k e t u []) (by intro e t xs hh; cases hh) (.map #[] 0) 0 (by
    intro q hq hb hw
    exact ⟨w.heap.size, #[], 0, by rw [hb], hw, rfl⟩)
  refine wp_value (v := .map (some w.heap.size)) (w' := { w with heap := w.heap.push (.map #[] 0) }) ?_ ?_
  · simp [execOp, ho, Instr.makeMap]
  · rw [over_cons, over_nil] at hn
    refine hn _ _ _ _ h1 h2 (.inr ?_)
    unfold RelL
    simp only [Fr.rp, upd_same]
    exact ⟨w.heap.size, rfl, rfl⟩

theorem lookup_ok (hE : EnvOk P c) (hc : Core F S β O w) (hs : Slots (F.rp S β O w) (lkp σ) a.tmps) {T : TypeId} {X Y : Operand} {ok : Bool} (ho : o.op = .lookup T X Y ok) {n : Nat} (hx : gv c σ X 0 = some (.one (.mp n)))
    {t' : Ty} {y : t'.V} (hy : gv c σ Y 0 = some (.one (.v t' y))) {k e : TypeId} {t u : Ty} {m : List (t.V × u.V)} (hO : O n = some (.mp k e t u m)) (hm : mapOk c T k e t u = true) {key : t.V} (hkey : castV t' t y = some key)
    {ve : TE} (hve : lkp c.te e = some ve) {z : u.V × List Lf} (hz : toTy u ve.z = some z)
    (hn1 : ok = true → After F S β O (over [] O) w (.tup [(false, [.v u (mget t z.1 key m).1]), (false, [.v .bool (mget t z.1 key m).2])]) o a next)
    (hn2 : ok = false → After F S β O (over [] O) w (.one (.v u (mget t z.1 key m).1)) o a next) : o.wp P a w next Q := by
  obtain ⟨hT, ⟨ke, d, hk1, hk2, hk3⟩, ⟨ve', d', hv1, hv2, hv3, hv4⟩⟩ := mapOk_spec hE hm
  rw [hve] at hv1; cases hv1
  obtain ⟨b, hb, hX⟩ := map_val (p := F.rp S β O w) hO (gv_rel hE hs hx)
  have hY := plain_val (gv_rel hE hs hy) hkey hk3
  obtain ⟨b', es, clock, hb', hw, hent⟩ := hc.obj n _ hO
  rw [hb] at hb'; simp only [Option.some.injEq, Prod.mk.injEq, and_true] at hb'; subst hb'
  simp only [Fr.rp] at hb hw
  have hget : (getObj b).run P w = .ok (.map es clock) w := by simp [getObj, Sem.run, hw]
  have hck := plain_checkKey hk3 hk2 es.isEmpty 9999 (a.eval Y) w
  obtain ⟨zv, hzv, hzp⟩ := zero_plain hE hve hv2 hv4 hz w
  have key : ∃ v, (Instr.lookup T (a.eval X) (a.eval Y) ok).run P w = .ok (if ok then .tuple #[v, .bool (mget t z.1 key m).2] else v) w ∧ plainV u (mget t z.1 key m).1 = some v := by
    rcases findNow_ok hk3 z.1 hY es.toList m 0 hent with ⟨j, v, e', q1, q2, q3, q4, q5, q6⟩ | ⟨q1, q2, q3⟩
    · refine ⟨v, ?_, q5⟩
      cases ok <;> simp [Instr.lookup, run_underlying hT, hX, hget, hck, Instr.findKey, run_underlying hk2, q1, q4]
    · refine ⟨zv, ?_, by rw [q2]; exact hzp⟩
      cases ok <;> simp [Instr.lookup, run_underlying hT, hX, hget, hck, Instr.findKey, run_underlying hk2, q1, q2, hzv]
  obtain ⟨v, h1, h2⟩ := key
  have hrd : ∀ p : RP, RelL p (.v u (mget t z.1 key m).1) [v] := fun p => by unfold RelL; exact plain_rd' hv4 h2
  cases ok with
  | true =>
    refine pure_ok hc (v := .tuple #[v, .bool (mget t z.1 key m).2]) (by simp [execOp, ho, h1]) ?_ (hn1 rfl)
    exact ⟨_, rfl, _, _, rfl, ⟨_, rfl, .inr (hrd _)⟩, _, _, rfl, ⟨_, rfl, .inr rfl⟩, rfl⟩
  | false =>
    refine pure_ok hc (v := v) (by simp [execOp, ho, h1]) ?_ (hn2 rfl)
    exact .inr (hrd _)

theorem mapUpd_ok (hE : EnvOk P c) (hc : Core F S β O w) (hs : Slots (F.rp S β O w) (lkp σ) a.tmps) {T : TypeId} {X Y V : Operand} (ho : o.op = .mapUpdate T X Y V) {n : Nat} (hx : gv c σ X 0 = some (.one (.mp n)))
    {t' : Ty} {y : t'.V} (hy : gv c σ Y 0 = some (.one (.v t' y))) {u' : Ty} {v : u'.V} (hv : gv c σ V 0 = some (.one (.v u' v))) {k e : TypeId} {t u : Ty} {m : List (t.V × u.V)} (hO : O n = some (.mp k e t u m)) (hm : mapOk c T k e t u = true) {key : t.V} (hkey : castV t' t y = some key)
    {val : u.V} (hval : castV u' u v = some val) (hn : After F S β O (over [(n, .mp k e t u (mput t key val m))] O) w (.one .undef) o a next) : o.wp P a w next Q := by
  obtain ⟨hT, ⟨ke, d, hk1, hk2, hk3⟩, ⟨ve', d', hv1, hv2, hv3, hv4⟩⟩ := mapOk_spec hE hm
  obtain ⟨b, hb, hX⟩ := map_val (p := F.rp S β O w) hO (gv_rel hE hs hx)
  have hY := plain_val (gv_rel hE hs hy) hkey hk3
  have hV := plain_val (gv_rel hE hs hv) hval hv4
  obtain ⟨b', es, clock, hb', hw, hent⟩ := hc.obj n _ hO
  rw [hb] at hb'; simp only [Option.some.injEq, Prod.mk.injEq, and_true] at hb'; subst hb'
  simp only [Fr.rp] at hb hw
  have hget : (getObj b).run P w = .ok (.map es clock) w := by simp [getObj, Sem.run, hw]
  have hset : ∀ ob, (setObj b ob).run P w = .ok () { w with heap := w.heap.setIfInBounds b ob } := by intro ob; simp [setObj, Sem.run, hw]
  have hck := plain_checkKey hk3 hk2 false 9999 (a.eval Y) w
  have key : ∃ es' ck, (Instr.mapUpdate T (a.eval X) (a.eval Y) (a.eval V)).run P w = .ok () { w with heap := w.heap.setIfInBounds b (.map es' ck) } ∧ EntR t u es'.toList (mput t key val m) := by
    rcases findNow_ok hk3 val hY es.toList m 0 hent with ⟨j, v, e', q1, q2, q3, q4, q5, q6⟩ | ⟨q1, q2, q3⟩
    · refine ⟨es.modify j fun e => { e with key := a.eval Y, val := a.eval V }, clock, ?_, by rw [Array.toList_modify]; exact q6 val _ hV⟩
      have hj : (((es[j]?).map (·.key)).getD (a.eval Y)) = a.eval Y := by
        have : es[j]? = some e' := by simpa using q2
        rw [this]; exact q3
      have hst : (Instr.keyThatStays (((es[j]?).map (·.key)).getD (a.eval Y)) (a.eval Y)).run P w = .ok (a.eval Y) w := by
        rw [hj]; simp [Instr.keyThatStays, plain_sameBits hk3 hY]
      simp only [Nat.zero_add] at q1
      simp [Instr.mapUpdate, run_underlying hT, hX, hget, hck, Instr.findKey, run_underlying hk2, q1, hst, hset]
    · refine ⟨es.push { key := a.eval Y, val := a.eval V, born := clock }, clock + 1, ?_, by rw [Array.toList_push]; exact q3 val _ clock hV⟩
      simp [Instr.mapUpdate, run_underlying hT, hX, hget, hck, Instr.findKey, run_underlying hk2, q1, hset]
  obtain ⟨es', ck, h1, h2⟩ := key
  obtain ⟨g1, g2⟩ := hc.writeObj hO rfl (o' := .mp k e t u (mput t key val m)) (.inr ⟨_, _, _, _, _, rfl⟩) rfl hb (by intro e t xs hh; cases hh) (by intro e t xs hh; cases hh) (.map es' ck) (by
    intro q _ hqb hqw
    refine ⟨b, es', ck, by rw [hqb]; exact hb, ?_, h2⟩
    rw [hqw]
    exact Array.getElem?_setIfInBounds_self_of_lt (Array.getElem?_eq_some_iff.1 hw).1)
  rw [over_cons, over_nil] at hn
  refine wp_skip' ?_ (hn _ _ _ _ g1 g2 (.inl rfl))
  simp [execOp, ho, h1]
end
end Go.Proofs.R

/- One operation: what the evaluator tells is so. -/
namespace Go.Proofs.R
open Go

section
variable {P : Program} {c : Ctx}
variable {F : Fr} {S : CellSet} {β : Nat → Place} {O : Nat → Option AObj} {w : World} {a : Act} {σ : List (Nat × AV)} {o : Oper} {next : Act → World → Prop} {Q : Exit → Act → World → Prop}

theorem ofList {α : Type} (a : Array α) (l : List α) (h : a.toList = l) : a = l.toArray := by
  cases a; simp at h; simp [h]

theorem calleeOf_rel {p : RP} (hs : Slots p (lkp σ) a.tmps) {x : Operand} {g : FuncId × List Lf} (h : calleeOf σ x = some g) : ∃ vs : Array Value, a.eval x = .func (.func g.1) #[] vs ∧ RelLs p g.2 vs.toList := by
  unfold calleeOf at h
  split at h
  · cases h; exact ⟨#[], rfl, rfl⟩
  · split at h
    · rename_i d f caps hd
      cases h
      rcases hs _ _ hd with h1 | ⟨vs, h1, h2⟩
      · cases h1
      · simp only [List.cons.injEq, and_true] at h1
        exact ⟨vs, h1, h2⟩
    · cases h
  · cases h

theorem opC_sound (hE : EnvOk P c) {I : Interp c} (hI : Snd P c I) (hc : Core F S β O w) (hs : Slots (F.rp S β O w) (lkp σ) a.tmps) {lk : Nat → Option AObj} {ns : List Nat} (hlk : ∀ n o, lk n = some o → O n = some o) (hns : ∀ n o, lk n = some o → n ∈ ns)
    {d : Nat} {av : AV} {u : Upd} (h : opC c I σ lk ns d o two = some (av, u)) (hnew : ∀ n o', (n, o') ∈ u → n / 8 = d → n % 8 < 5 → O n = none)
    (hn : After F S β O (over u O) w av o a next) : o.wp P a w next Q := by
  have hd8 : ∀ o', (d * 8, o') ∈ u → O (d * 8) = none := fun o' hm => hnew _ o' hm (by omega) (by omega)
  unfold opC at h
  split at h
  · -- move
    rename_i x hx
    simp only [Option.bind_eq_some_iff, two, Option.some.injEq, Prod.mk.injEq] at h
    obtain ⟨v, h1, rfl, rfl⟩ := h
    exact move_ok hE hc hs (.inl hx) h1 hn
  · rename_i x hx
    simp only [Option.bind_eq_some_iff, two, Option.some.injEq, Prod.mk.injEq] at h
    obtain ⟨v, h1, rfl, rfl⟩ := h
    exact move_ok hE hc hs (.inr hx) h1 hn
  · -- pick
    rename_i x y z ho
    split at h
    · rename_i g hg
      split at h
      · rename_i t p u' q hp hq
        simp only [Option.bind_eq_some_iff, two, Option.some.injEq, Prod.mk.injEq] at h
        obtain ⟨q', h1, rfl, rfl⟩ := h
        obtain ⟨e, h2⟩ := castV_eq h1
        subst e
        refine pick_ok hE hc hs ho hg ?_ hn
        cases g with
        | true => exact gv_rel hE hs hp
        | false => have := gv_rel hE hs hq; simp only at h2; subst h2; exact this
      · cases g with
        | true =>
          simp only [ifB, cond_true, Option.bind_eq_some_iff, two, Option.some.injEq, Prod.mk.injEq] at h
          obtain ⟨v, h1, rfl, rfl⟩ := h
          exact pick_ok hE hc hs ho hg (gv_rel hE hs h1) hn
        | false =>
          simp only [ifB, cond_false, Option.bind_eq_some_iff, two, Option.some.injEq, Prod.mk.injEq] at h
          obtain ⟨v, h1, rfl, rfl⟩ := h
          exact pick_ok hE hc hs ho hg (gv_rel hE hs h1) hn
    · cases h
  · -- alloc
    rename_i T ho
    simp only [Option.bind_eq_some_iff, two, Option.some.injEq, Prod.mk.injEq] at h
    obtain ⟨te, h1, rfl, rfl⟩ := h
    exact alloc_ok hE hc ho h1 (hd8 _ List.mem_cons_self) hn
  · -- box
    rename_i T x ho
    simp only [Option.bind_eq_some_iff, two, Option.some.injEq, Prod.mk.injEq] at h
    obtain ⟨v, h1, ls, h2, rfl, rfl⟩ := h
    exact box_ok hE hc hs ho h1 h2 (hd8 _ List.mem_cons_self) hn
  · -- build
    rename_i T ps ho
    simp only [Option.bind_eq_some_iff] at h
    obtain ⟨te, h1, h⟩ := h
    split at h
    · rename_i fs _ hd
      simp only [Option.bind_eq_some_iff, two, Option.some.injEq, Prod.mk.injEq] at h
      obtain ⟨as, h2, ls, h3, rfl, rfl⟩ := h
      exact build_ok hE hc hs ho h1 hd h2 h3 hn
    · cases h
  · -- buildSlice
    rename_i T n ps ho
    simp only [Option.bind_eq_some_iff] at h
    obtain ⟨te, h1, h⟩ := h
    split at h
    · rename_i e t hd _
      cases hb : (eltOk c T t && Nat.ble (n * t.size) 16777216) with
      | false => rw [hb] at h; cases h
      | true =>
        rw [hb] at h
        rw [Bool.and_eq_true] at hb
        simp only [cond_true, Option.bind_eq_some_iff] at h
        obtain ⟨ee, h2, z, h3, as, h4, qs, h5, h⟩ := h
        cases hb2 : nodupB (qs.map (·.1)) with
        | false => rw [hb2] at h; cases h
        | true =>
          rw [hb2] at h
          simp only [cond_true, two, Option.some.injEq, Prod.mk.injEq] at h
          obtain ⟨rfl, rfl⟩ := h
          exact buildSlice_ok hE hc hs ho h1 hd hb.1 hb.2 h2 h3 h4 hlk h5 hb2 (hd8 _ List.mem_cons_self) hn
    · cases h
  · -- load
    rename_i T x ho
    simp only [Option.bind_eq_some_iff] at h
    obtain ⟨te, h1, p, h2, l, h3, h⟩ := h
    exact load_ok hE hc hs ho h1 h2 h3 hlk h hn
  · -- store
    rename_i T x y ho
    simp only [Option.bind_eq_some_iff] at h
    obtain ⟨te, h1, p, h2, l, h3, v, h4, h⟩ := h
    rw [storeOp_nat] at h
    simp only [Option.bind_eq_some_iff, two, Option.some.injEq, Prod.mk.injEq] at h
    obtain ⟨u', h5, rfl, rfl⟩ := h
    exact store_ok hE hc hs ho h1 h2 h3 h4 hlk h5 hn
  · -- nilCheck
    rename_i x ho
    simp only [Option.bind_eq_some_iff] at h
    obtain ⟨v, h1, h⟩ := h
    have hr := gv_rel hE hs h1
    have hbox : ∀ n off, aliveB lk (.ref n off) = true → ∃ T ls, O n = some (.box T ls) := by
      intro n off ha
      simp only [aliveB] at ha
      split at ha
      · rename_i T ls hl; exact ⟨T, ls, hlk _ _ hl⟩
      · cases ha
    split at h
    · rename_i n off
      cases hb : aliveB lk (.ref n off) with
      | false => rw [hb] at h; cases h
      | true =>
        rw [hb] at h; simp only [cond_true, two, Option.some.injEq, Prod.mk.injEq] at h; obtain ⟨rfl, rfl⟩ := h
        obtain ⟨T, ls, hO⟩ := hbox n off hb
        refine nilCheck_ok hE hc hs ho h1 (by intro e; cases e) ?_ hn
        rcases hr with hr | hr
        · cases hr
        · obtain ⟨b, _, e⟩ := ref_val hr ⟨T, ls, hO⟩
          exact .inl ⟨b, off, e⟩
    · simp only [two, Option.some.injEq, Prod.mk.injEq] at h; obtain ⟨rfl, rfl⟩ := h
      refine nilCheck_ok hE hc hs ho h1 (by intro e; cases e) ?_ hn
      rcases hr with hr | hr
      · cases hr
      · obtain ⟨b, o', ds, e, _⟩ := hr
        simp only [List.cons.injEq, and_true] at e
        exact .inl ⟨b, _, e⟩
    · rename_i n i off
      cases hb : aliveB lk (.eref n i off) with
      | false => rw [hb] at h; cases h
      | true =>
        rw [hb] at h; simp only [cond_true, two, Option.some.injEq, Prod.mk.injEq] at h; obtain ⟨rfl, rfl⟩ := h
        refine nilCheck_ok hE hc hs ho h1 (by intro e; cases e) ?_ hn
        rcases hr with hr | hr
        · cases hr
        · simp only [aliveB] at hb
          split at hb
          · rename_i e0 t xs fz hl
            unfold RelL at hr
            rw [show (F.rp S β O w).O n = some (.row e0 t xs fz) from hlk _ _ hl] at hr
            obtain ⟨b, o', _, _, _, e⟩ := hr
            simp only [List.cons.injEq, and_true] at e
            exact .inl ⟨b, _, e⟩
          · cases hb
    · simp only [two, Option.some.injEq, Prod.mk.injEq] at h; obtain ⟨rfl, rfl⟩ := h
      refine nilCheck_ok hE hc hs ho h1 (by intro e; cases e) ?_ hn
      rcases hr with hr | hr
      · cases hr
      · obtain ⟨vs, e, _⟩ := hr
        simp only [List.cons.injEq, and_true] at e
        exact .inr ⟨_, vs, e⟩
    · cases h
  · -- binOp
    rename_i op T x y U ho
    simp only [Option.bind_eq_some_iff] at h
    obtain ⟨p, h1, q, h2, h⟩ := h
    rw [binL_nat] at h
    simp only [Option.bind_eq_some_iff, two, Option.some.injEq, Prod.mk.injEq] at h
    obtain ⟨l, h3, rfl, rfl⟩ := h
    exact bin_ok hE hc hs ho h1 h2 h3 hn
  · -- unOp
    rename_i op T x ho
    simp only [Option.bind_eq_some_iff] at h
    obtain ⟨p, h1, h⟩ := h
    rw [unL_nat] at h
    simp only [Option.bind_eq_some_iff, two, Option.some.injEq, Prod.mk.injEq] at h
    obtain ⟨l, h3, rfl, rfl⟩ := h
    exact un_ok hE hc hs ho h1 h3 hn
  · -- convert
    rename_i s t x ho
    simp only [Option.bind_eq_some_iff] at h
    obtain ⟨es, h1, et, h2, v, h3, h⟩ := h
    split at h
    · rename_i k0 k k1 n e1 e2
      simp only [two, Option.some.injEq, Prod.mk.injEq] at h; obtain ⟨rfl, rfl⟩ := h
      exact conv_ok hE hc hs ho h1 h2 h3 (.inl ⟨_, _, _, _, e1, e2, rfl, rfl⟩) hn
    · rename_i n e1 e2
      simp only [two, Option.some.injEq, Prod.mk.injEq] at h; obtain ⟨rfl, rfl⟩ := h
      exact conv_ok hE hc hs ho h1 h2 h3 (.inr ⟨_, e1, e2, rfl, rfl⟩) hn
    · cases h
  · -- makeFunc
    rename_i f first caps ho
    cases hb : first.isEmpty with
    | false => rw [hb] at h; cases h
    | true =>
      rw [hb] at h
      simp only [cond_true, Option.bind_eq_some_iff, two, Option.some.injEq, Prod.mk.injEq] at h
      obtain ⟨as, h1, ls, h2, rfl, rfl⟩ := h
      exact makeFunc_ok hE hc hs ho hb h1 h2 hn
  · -- makeSlice
    rename_i T x y ho
    simp only [Option.bind_eq_some_iff] at h
    obtain ⟨te, h1, h⟩ := h
    split at h
    · rename_i e t hd _
      cases hb : eltOk c T t with
      | false => rw [hb] at h; cases h
      | true =>
        rw [hb] at h
        simp only [cond_true, Option.bind_eq_some_iff, bindD, two, Option.some.injEq, Prod.mk.injEq] at h
        obtain ⟨ee, h2, z, h3, p, h4, n, h5, q, h6, m, h7, len, h8, rfl, rfl⟩ := h
        exact makeSlice_ok hE hc hs ho h1 hd hb h2 h3 h4 h6 h5 h7 h8 (hd8 _ List.mem_cons_self) hn
    · cases h
  · -- slice
    rename_i T x lo hi mx ho
    cases mx with
    | some m => simp at h
    | none =>
      simp only [Option.isNone_none, cond_true, Option.bind_eq_some_iff] at h
      obtain ⟨v, h1, l, h2, lv, h3, hv, h4, h⟩ := h
      exact slice_ok hE hc hs ho h1 h2 h3 h4 hlk h hn
  · -- fieldAddr
    rename_i T x f ho
    simp only [Option.bind_eq_some_iff] at h
    obtain ⟨te, h1, v, h2, l, h3, off, h4, l', h5, h⟩ := h
    cases hb : aliveB lk l with
    | false => rw [hb] at h; cases h
    | true =>
      rw [hb] at h; simp only [cond_true] at h
      split at h
      · rename_i fs hd
        simp only [two, Option.some.injEq, Prod.mk.injEq] at h; obtain ⟨rfl, rfl⟩ := h
        exact fieldAddr_ok hE hc hs ho h1 hd h2 h3 h4 h5 hlk hb hn
      · cases h
  · -- field
    rename_i T x f ho
    simp only [Option.bind_eq_some_iff] at h
    obtain ⟨te, h1, h⟩ := h
    split at h
    · rename_i fs hd
      simp only [Option.bind_eq_some_iff] at h
      obtain ⟨ft, h2, fe, h3, off, h4, v, h5, h⟩ := h
      split at h
      · simp only [Option.bind_eq_some_iff, two, Option.some.injEq, Prod.mk.injEq] at h
        obtain ⟨q, h6, r, h7, rfl, rfl⟩ := h
        exact field_ok hE hc hs ho h1 hd h2 h3 h4 h5 h6 h7 hn
      · cases h
    · cases h
  · -- indexAddr
    rename_i T x i ho
    simp only [Option.bind_eq_some_iff] at h
    obtain ⟨v, h1, l, h2, b, h3, n, h4, h⟩ := h
    exact indexAddr_ok hE hc hs ho h1 h2 h3 h4 hlk h hn
  · -- index
    rename_i T x i ho
    simp only [Option.bind_eq_some_iff] at h
    obtain ⟨v, h1, b, h3, n, h4, h⟩ := h
    split at h
    · rename_i s
      cases hb : strOk c T with
      | false => rw [hb] at h; cases h
      | true =>
        rw [hb] at h
        simp only [cond_true, bindD, Option.bind_eq_some_iff, two, Option.some.injEq, Prod.mk.injEq] at h
        obtain ⟨y, h5, rfl, rfl⟩ := h
        exact index_ok hE hc hs ho hb h1 h3 h4 h5 hn
    · cases h
  · -- extract
    rename_i x i ho
    simp only [Option.bind_eq_some_iff] at h
    obtain ⟨v, h1, h⟩ := h
    split at h
    · simp only [Option.bind_eq_some_iff, two, Option.some.injEq, Prod.mk.injEq] at h
      obtain ⟨q, h2, r, h3, rfl, rfl⟩ := h
      exact extract_ok hE hc hs ho h1 h2 h3 hn
    · cases h
  · -- range
    rename_i T x ho
    cases hb : strOk c T with
    | false => rw [hb] at h; cases h
    | true =>
      rw [hb] at h
      simp only [cond_true, Option.bind_eq_some_iff] at h
      obtain ⟨v, h1, h⟩ := h
      split at h
      · simp only [two, Option.some.injEq, Prod.mk.injEq] at h
        obtain ⟨rfl, rfl⟩ := h
        exact range_ok hE hc hs ho hb h1 (hd8 _ List.mem_cons_self) hn
      · cases h
  · -- next
    rename_i x ho
    simp only [Option.bind_eq_some_iff] at h
    obtain ⟨v, h1, h⟩ := h
    split at h
    · split at h
      · rename_i s pos hl
        unfold ifB at h
        cases hp : decide (pos < s.size) with
        | true =>
          rw [hp] at h; simp only [cond_true, two, Option.some.injEq, Prod.mk.injEq] at h; obtain ⟨rfl, rfl⟩ := h
          exact next_ok hE hc hs ho h1 (hlk _ _ hl) (fun _ => hn) (fun hq => (hq (of_decide_eq_true hp)).elim)
        | false =>
          rw [hp] at h; simp only [cond_false, two, Option.some.injEq, Prod.mk.injEq] at h; obtain ⟨rfl, rfl⟩ := h
          exact next_ok hE hc hs ho h1 (hlk _ _ hl) (fun hq => (of_decide_eq_false hp hq).elim) (fun _ => hn)
      · cases h
    · cases h
  · -- makeMap
    rename_i T r ho
    cases hr : r.isNone with
    | false => rw [hr] at h; cases h
    | true =>
      rw [hr] at h
      simp only [cond_true] at h
      have hr' : r = none := by simpa using hr
      subst hr'
      unfold makeMapOp at h
      simp only [Option.bind_eq_some_iff] at h
      obtain ⟨te, h1, h⟩ := h
      split at h
      · simp only [Option.bind_eq_some_iff] at h
        obtain ⟨ke, h2, ve, h3, h⟩ := h
        split at h
        · simp only [two, Option.some.injEq, Prod.mk.injEq] at h
          obtain ⟨rfl, rfl⟩ := h
          exact makeMap_ok hE hc ho (hd8 _ List.mem_cons_self) hn
        · cases h
      · cases h
  · -- lookup
    rename_i T x i ok ho
    simp only [Option.bind_eq_some_iff] at h
    obtain ⟨v, h1, y, h2, h⟩ := h
    unfold lookupOp at h
    split at h
    · split at h
      · rename_i k e t u m hl
        cases hm : mapOk c T k e t u with
        | false => rw [hm] at h; cases h
        | true =>
          rw [hm] at h
          simp only [cond_true, Option.bind_eq_some_iff] at h
          obtain ⟨key, h3, ve, h4, z, h5, h⟩ := h
          cases ok with
          | true =>
            simp only [cond_true, two, Option.some.injEq, Prod.mk.injEq] at h; obtain ⟨rfl, rfl⟩ := h
            exact lookup_ok hE hc hs ho h1 h2 (hlk _ _ hl) hm h3 h4 h5 (fun _ => hn) (fun hq => by cases hq)
          | false =>
            simp only [cond_false, two, Option.some.injEq, Prod.mk.injEq] at h; obtain ⟨rfl, rfl⟩ := h
            exact lookup_ok hE hc hs ho h1 h2 (hlk _ _ hl) hm h3 h4 h5 (fun hq => by cases hq) (fun _ => hn)
      · cases h
    · cases h
  · -- mapUpdate
    rename_i T x i y ho
    simp only [Option.bind_eq_some_iff] at h
    obtain ⟨v, h1, k', h2, vv, h3, h⟩ := h
    unfold mapUpdOp at h
    split at h
    · split at h
      · rename_i k e t u m hl
        cases hm : mapOk c T k e t u with
        | false => rw [hm] at h; cases h
        | true =>
          rw [hm] at h
          simp only [cond_true, Option.bind_eq_some_iff, two, Option.some.injEq, Prod.mk.injEq] at h
          obtain ⟨key, h4, val, h5, rfl, rfl⟩ := h
          exact mapUpd_ok hE hc hs ho h1 h2 h3 (hlk _ _ hl) hm h4 h5 hn
      · cases h
    · cases h
  · -- builtins
    rename_i b as ts ho
    simp only [Option.bind_eq_some_iff] at h
    obtain ⟨vs, h1, h⟩ := h
    have hr := gvs_rel hE hs h1
    have hargs : (as.map a.eval).toList = as.toList.map a.eval := by simp
    split at h
    · -- len
      rename_i l T hts
      simp only [Option.bind_eq_some_iff, two, Option.some.injEq, Prod.mk.injEq] at h
      obtain ⟨n, h2, rfl, rfl⟩ := h
      obtain ⟨v1, r1, e, h3, h4⟩ := hr
      simp only [RelAVs] at h4; subst h4
      have hvl : l ≠ .undef := by rintro rfl; simp [lenOp] at h2
      have he : as.map a.eval = #[v1] := ofList _ _ (hargs.trans e)
      have ht : ts = #[T] := ofList _ _ hts
      refine pure_ok hc (v := .int .i64 n) ?_ (of_int _ _ _) hn
      have := len_run (P := P) (F := F) (S := S) (β := β) (w := w) hE hlk h2 (h3.resolve_left hvl) o.type
      simp [execOp, ho, Go.resolve, invoke, builtin, he, ht, this]
    · -- append
      rename_i s x T U hts
      cases hb : (slOk c U || strOk c U) with
      | false => rw [hb] at h; cases h
      | true =>
        rw [hb] at h; simp only [cond_true] at h
        obtain ⟨v1, r1, e, h3, v2, r2, e2, h4, h5⟩ := hr
        subst e2
        simp only [RelAVs] at h5; subst h5
        have hsu : s ≠ .undef ∧ x ≠ .undef := by
          constructor
          · rintro rfl
            unfold appendOp at h
            simp only [Option.bind_eq_some_iff] at h
            obtain ⟨te, _, h⟩ := h
            split at h
            · simp only [Option.bind_eq_some_iff] at h
              obtain ⟨ys, _, h⟩ := h
              cases eltOk c T ys.1 <;> simp at h
            · cases h
          · rintro rfl
            unfold appendOp at h
            simp only [Option.bind_eq_some_iff] at h
            obtain ⟨te, _, h⟩ := h
            split at h
            · simp [rowsOf] at h
            · cases h
        have hd0 : O (d * 8) = none := by
          unfold appendOp at h
          simp only [Option.bind_eq_some_iff] at h
          obtain ⟨te, _, h⟩ := h
          split at h
          · simp only [Option.bind_eq_some_iff] at h
            obtain ⟨ys, _, h⟩ := h
            cases hel : eltOk c T ys.1 with
            | false => rw [hel] at h; cases h
            | true =>
              rw [hel] at h; simp only [cond_true] at h
              split at h
              · rename_i e1 t1
                cases hq : Nat.beq _ e1 with
                | false => rw [hq] at h; cases h
                | true =>
                  rw [hq] at h
                  simp only [cond_true, bindD, Option.bind_eq_some_iff, two, Option.some.injEq, Prod.mk.injEq] at h
                  obtain ⟨_, _, _, _, _, rfl⟩ := h
                  exact hd8 _ List.mem_cons_self
              · split at h
                · rename_i e1 t1 _ _ _
                  cases hq : Nat.beq _ e1 with
                  | false => rw [hq] at h; cases h
                  | true =>
                    rw [hq] at h
                    simp only [cond_true, bindD, Option.bind_eq_some_iff, two, Option.some.injEq, Prod.mk.injEq] at h
                    obtain ⟨_, _, _, _, _, rfl⟩ := h
                    exact hd8 _ (List.mem_cons_of_mem _ List.mem_cons_self)
                · cases h
              · cases h
          · cases h
        have he : as.map a.eval = #[v1, v2] := ofList _ _ (hargs.trans e)
        have ht : ts = #[T, U] := ofList _ _ hts
        obtain ⟨v, w', S', β', h6, h7, h8, h9⟩ := appendOp_run hE hc hlk hd0 hb (h3.resolve_left hsu.1) (h4.resolve_left hsu.2) h o.type
        refine wp_value (v := v) (w' := w') ?_ (hn S' β' w' v h7 h8 h9)
        simp [execOp, ho, Go.resolve, invoke, builtin, he, ht, h6]
    · -- min
      simp only [Option.bind_eq_some_iff, two, Option.some.injEq, Prod.mk.injEq] at h
      obtain ⟨l, h2, rfl, rfl⟩ := h
      obtain ⟨v, h3, h4⟩ := minMax_run (P := P) h2 hr ts o.type w
      refine pure_ok hc (v := v) ?_ h4 hn
      have he : (as.toList.map a.eval).toArray = as.map a.eval := (ofList _ _ hargs).symm
      rw [he] at h3
      simp only [if_true] at h3
      simp [execOp, ho, Go.resolve, invoke, builtin, h3]
    · simp only [Option.bind_eq_some_iff, two, Option.some.injEq, Prod.mk.injEq] at h
      obtain ⟨l, h2, rfl, rfl⟩ := h
      obtain ⟨v, h3, h4⟩ := minMax_run (P := P) h2 hr ts o.type w
      refine pure_ok hc (v := v) ?_ h4 hn
      have he : (as.toList.map a.eval).toArray = as.map a.eval := (ofList _ _ hargs).symm
      rw [he] at h3
      simp only [Bool.false_eq_true, if_false] at h3
      simp [execOp, ho, Go.resolve, invoke, builtin, h3]
    · cases h
  · -- a call
    rename_i x as ts ho
    simp only [Option.bind_eq_some_iff] at h
    obtain ⟨g, h1, vs, h2, h⟩ := h
    split at h
    · rename_i k hk
      cases hb : g.2.isEmpty with
      | false => rw [hb] at h; cases h
      | true =>
        rw [hb] at h; simp only [cond_true] at h
        have hg2 : g.2 = [] := List.isEmpty_iff.1 hb
        obtain ⟨cs, h3, h4⟩ := calleeOf_rel hs h1
        have hr : RelAVs (F.rp S β O w) vs (as.map a.eval ++ cs).toList := by
          have := RelAVs_append (gvs_rel hE hs h2) (caps_rel h4 (by rw [hg2]; rfl))
          rw [hg2] at this
          simpa using this
        obtain ⟨h5, h6⟩ := intrOp_ok hE hc hlk hk hr h hnew
        have : (execOp a.eval o).run P w = .ok (.enter g.1 (as.map a.eval ++ cs)) w := by
          simp [execOp, ho, Go.resolve, Deferred.ofValue, h3, invoke, h5]
        unfold Oper.wp
        rw [this, Oper.upon_enter]
        refine h6.mono ?_
        rintro e w' ⟨v, S', β', rfl, h7, h8, h9⟩
        exact hn S' β' w' v h7 h8 h9
    · rename_i hkn
      cases hb : (g.2.all fun l => Nat.beq l.size 1) with
      | false => rw [hb] at h; cases h
      | true =>
        rw [hb] at h; simp only [cond_true] at h
        obtain ⟨cs, h3, h4⟩ := calleeOf_rel hs h1
        have hr : RelAVs (F.rp S β O w) (vs ++ g.2.map AV.one) (as.map a.eval ++ cs).toList := by
          have := RelAVs_append (gvs_rel hE hs h2) (caps_rel h4 hb)
          simpa using this
        obtain ⟨h5, h6⟩ := callOp_ok hI hc hlk hns h hr hnew
        have : (execOp a.eval o).run P w = .ok (.enter g.1 (as.map a.eval ++ cs)) w := by
          simp [execOp, ho, Go.resolve, Deferred.ofValue, h3, invoke, h5]
        unfold Oper.wp
        rw [this, Oper.upon_enter]
        refine h6.mono ?_
        rintro e w' ⟨v, S', β', rfl, h7, h8, h9⟩
        exact hn S' β' w' v h7 h8 h9
  · cases h
end
end Go.Proofs.R

/- A region: its operations one by one, in the order of the list, and in every other order that is allowed. -/
namespace Go.Proofs.R
open Go

section
variable {P : Program} {c : Ctx} {I : Interp c}

/-- memory is as the state tells -/
def Good (F : Fr) (nt : Nat) (st : St) (a : Act) (w : World) : Prop :=
  ∃ S β, Core F S β (lkp st.O) w ∧ Slots (F.rp S β (lkp st.O) w) (lkp st.σ) a.tmps ∧ a.tmps.size = nt ∧ a.defers = []

def Eqv (s t : St) : Prop := lkp s.σ = lkp t.σ ∧ lkp s.O = lkp t.O

theorem Good.eqv {F : Fr} {nt : Nat} {s t : St} {a : Act} {w : World} (h : Eqv s t) (hg : Good F nt s a w) : Good F nt t a w := by
  obtain ⟨S, β, h1, h2, h3⟩ := hg
  exact ⟨S, β, by rw [← h.2]; exact h1, by rw [← h.1, ← h.2]; exact h2, h3⟩

def putF (dst : Option Nat) (a : AV) (σ : Nat → Option AV) : Nat → Option AV :=
  match dst with
  | none => σ
  | some d => upd σ d (some a)

/-- is the operation wanted? -/
def WantA (ops : Array Oper) (o : Oper) (st : St) (b : Bool) : Prop :=
  match o.guard with
  | none => b = true
  | some (j, want) => ∃ dj, (ops[j]?).bind (·.dst) = some dj ∧ ((∃ g, lkp st.σ dj = some (.one (.v .bool g)) ∧ b = (g == want)) ∨ (lkp st.σ dj = some (.tup []) ∧ b = false))

structure Did (c : Ctx) (I : Interp c) (o : Oper) (st : St) (x : Log) (st' : St) : Prop where
  did : ∃ av u, opC c I st.σ (lookIn st.O (namesAt st.σ st.O o)) (namesAt st.σ st.O o) (o.dst.getD 0) o two = some (av, u) ∧
    updOk st.O (namesAt st.σ st.O o) (o.dst.getD 0) u = true ∧ lkp st'.σ = putF o.dst av (lkp st.σ) ∧ lkp st'.O = over u (lkp st.O) ∧
    x.ns = namesAt st.σ st.O o ∧ x.ws = u.map (·.1)

structure Skipped (o : Oper) (st : St) (x : Log) (st' : St) : Prop where
  σ : lkp st'.σ = putF o.dst (.tup []) (lkp st.σ)
  O : lkp st'.O = lkp st.O
  ns : x.ns = []
  ws : x.ws = []

def AStep (c : Ctx) (I : Interp c) (nt : Nat) (ops : Array Oper) (o : Oper) (st : St) (x : Log) (st' : St) : Prop :=
  (∀ d, o.dst = some d → d < nt) ∧ ((WantA ops o st true ∧ Did c I o st x st') ∨ (WantA ops o st false ∧ Skipped o st x st'))

/-! ### what an operation depends on -/
theorem gv_congr {σ σ' : List (Nat × AV)} {x : Operand} (h : ∀ t, x = .tmp t → lkp σ t = lkp σ' t) (T : TypeId) : gv c σ x T = gv c σ' x T := by
  cases x with
  | tmp t => exact h t rfl
  | const v => unfold gv; split <;> first | rfl | (rename_i hh; cases hh)
  | _ => rfl
theorem gvs_congr {σ σ' : List (Nat × AV)} : ∀ {xs : List Operand}, (∀ x ∈ xs, ∀ T, gv c σ x T = gv c σ' x T) → ∀ ts, gvs c σ xs ts = gvs c σ' xs ts
  | [], _, _ => rfl
  | x :: xs, h, ts => by
    simp only [gvs]
    rw [h x List.mem_cons_self, gvs_congr (fun y hy => h y (List.mem_cons_of_mem _ hy))]
theorem partsOf_congr {σ σ' : List (Nat × AV)} : ∀ {ps : List (Nat × Operand)}, (∀ x ∈ ps.map (·.2), ∀ T, gv c σ x T = gv c σ' x T) → partsOf c σ ps = partsOf c σ' ps
  | [], _ => rfl
  | (i, x) :: ps, h => by
    simp only [partsOf]
    rw [h x (by simp), partsOf_congr (fun y hy => h y (by simp only [List.map_cons, List.mem_cons]; exact .inr hy))]
theorem optG_congr {σ σ' : List (Nat × AV)} {x : Option Operand} (h : ∀ y, x = some y → ∀ T, gv c σ y T = gv c σ' y T) : optG c σ x = optG c σ' x := by
  cases x with
  | none => rfl
  | some y => simp only [optG]; rw [h y rfl]
theorem calleeOf_congr {σ σ' : List (Nat × AV)} {x : Operand} (h : ∀ t, x = .tmp t → lkp σ t = lkp σ' t) : calleeOf σ x = calleeOf σ' x := by
  cases x with
  | tmp t => simp only [calleeOf]; rw [h t rfl]
  | _ => rfl

theorem opC_congr {ρ : Type} {σ σ' : List (Nat × AV)} {o : Oper} (h : ∀ t, .tmp t ∈ o.op.operands → lkp σ t = lkp σ' t) (lk : Nat → Option AObj) (ns : List Nat) (d : Nat) (K : AV → Upd → Option ρ) :
    opC c I σ lk ns d o K = opC c I σ' lk ns d o K := by
  have hg : ∀ x, x ∈ o.op.operands → ∀ T, gv c σ x T = gv c σ' x T := fun x hx T => gv_congr (fun t e => h t (e ▸ hx)) T
  obtain ⟨dst, op, type, pos, after, guard⟩ := o
  cases op <;> simp only [Op.operands] at hg <;> simp only [opC]
  case move x => rw [hg x (by simp)]
  case assign x => rw [hg x (by simp)]
  case pick x a b => rw [hg x (by simp), hg a (by simp), hg b (by simp)]
  case box T x => rw [hg x (by simp)]
  case build T ps => rw [partsOf_congr (σ := σ) (σ' := σ') (fun x hx => hg x (by simpa using hx))]
  case buildSlice T n ps => rw [partsOf_congr (σ := σ) (σ' := σ') (fun x hx => hg x (by simpa using hx))]
  case load T a => rw [hg a (by simp)]
  case store T a x => rw [hg a (by simp), hg x (by simp)]
  case nilCheck x => rw [hg x (by simp)]
  case binOp op T x y U => rw [hg x (by simp), hg y (by simp)]
  case unOp op T x => rw [hg x (by simp)]
  case convert s t x => rw [hg x (by simp)]
  case makeFunc fn first caps =>
    cases fn <;> simp only
    rw [gvs_congr (σ := σ) (σ' := σ') (fun x hx => hg x (by simp at hx ⊢; exact .inr hx))]
  case makeSlice T l m => rw [hg l (by simp), hg m (by simp)]
  case slice T x lo hi mx =>
    rw [hg x (by simp), optG_congr (σ := σ) (σ' := σ') (x := lo) (fun y e => hg y (by subst e; simp)), optG_congr (σ := σ) (σ' := σ') (x := hi) (fun y e => hg y (by subst e; simp))]
  case fieldAddr T x f => rw [hg x (by simp)]
  case field T x f => rw [hg x (by simp)]
  case indexAddr T x i => rw [hg x (by simp), hg i (by simp)]
  case index T x i => rw [hg x (by simp), hg i (by simp)]
  case extract x i => rw [hg x (by simp)]
  case range T x => rw [hg x (by simp)]
  case next it b => cases b <;> simp only; rw [hg it (by simp)]
  case lookup T x i ok => rw [hg x (by simp), hg i (by simp)]
  case mapUpdate T x i y => rw [hg x (by simp), hg i (by simp), hg y (by simp)]
  case call cl =>
    obtain ⟨callee, as, ts⟩ := cl
    cases callee with
    | builtin b =>
      simp only
      rw [gvs_congr (σ := σ) (σ' := σ') (fun x hx => hg x (by simp only [Call.operands]; simp at hx ⊢; exact hx))]
    | value x =>
      simp only
      rw [calleeOf_congr (σ := σ) (σ' := σ') (fun t e => h t (by subst e; simp [Op.operands, Call.operands])), gvs_congr (σ := σ) (σ' := σ') (fun x hx => hg x (by simp only [Call.operands]; simp at hx ⊢; exact .inr hx))]
    | invoke r m => rfl

theorem memB_iff {l : List Nat} {n : Nat} : memB l n = true ↔ n ∈ l := by
  induction l with
  | nil => simp [memB]
  | cons m l ih =>
    simp only [memB, Bool.or_eq_true, ih, List.mem_cons]
    constructor
    · rintro (h | h)
      · exact .inl (Nat.eq_of_beq_eq_true h).symm
      · exact .inr h
    · rintro (rfl | h)
      · exact .inl (by simp)
      · exact .inr h
theorem disjB_iff {l m : List Nat} : disjB l m = true ↔ ∀ n ∈ l, n ∉ m := by
  induction l with
  | nil => simp [disjB]
  | cons k l ih =>
    simp only [disjB, Bool.and_eq_true, ih, List.mem_cons, forall_eq_or_imp, Bool.not_eq_true']
    rw [← Bool.not_eq_true, memB_iff]

theorem flatMap_congr' {α β : Type} : ∀ {l : List α} {f g : α → List β}, (∀ x ∈ l, f x = g x) → l.flatMap f = l.flatMap g
  | [], _, _, _ => rfl
  | x :: l, f, g, h => by
    rw [List.flatMap_cons, List.flatMap_cons, h x List.mem_cons_self, flatMap_congr' fun y hy => h y (List.mem_cons_of_mem _ hy)]

theorem reach_congr {O O' : List (Nat × AObj)} : ∀ (k : Nat) (ns : List Nat), (∀ n ∈ reach O k ns, lkp O' n = lkp O n) → reach O' k ns = reach O k ns
  | 0, _, _ => rfl
  | k + 1, ns, h => by
    simp only [reach] at h ⊢
    have e : (ns.flatMap fun n => optL (lkp O' n) AObj.names) = ns.flatMap fun n => optL (lkp O n) AObj.names := by
      apply flatMap_congr'; intro n hn; rw [h n (List.mem_append_left _ hn)]
    rw [e, reach_congr k _ (fun n hn => h n (List.mem_append_right _ hn))]
end
end Go.Proofs.R

/- Operations that do not look at each other may change places. -/
namespace Go.Proofs.R
open Go

section
variable {P : Program} {c : Ctx} {I : Interp c} {nt : Nat} {ops : Array Oper}

theorem looks_op {o : Oper} {t : Nat} (h : .tmp t ∈ o.op.operands) : t ∈ o.looksAt ops :=
  List.mem_append_left _ (List.mem_filterMap.2 ⟨.tmp t, by simpa using h, rfl⟩)
theorem looks_guard {o : Oper} {j : Nat} {want : Bool} {dj : Nat} (hg : o.guard = some (j, want)) (hd : (ops[j]?).bind (·.dst) = some dj) : dj ∈ o.looksAt ops := by
  refine List.mem_append_right _ ?_
  rw [hg]; simp only [hd, Option.toList_some, List.mem_singleton]

theorem namesAt_slots {σ σ' : List (Nat × AV)} {O : List (Nat × AObj)} {o : Oper} (h : ∀ t, .tmp t ∈ o.op.operands → lkp σ t = lkp σ' t) : namesAt σ O o = namesAt σ' O o := by
  unfold namesAt
  congr 1
  refine flatMap_congr' ?_
  intro x hx
  cases x with
  | tmp t => simp only; rw [h t (by simpa using hx)]
  | _ => rfl

theorem namesAt_congr {σ σ' : List (Nat × AV)} {O O' : List (Nat × AObj)} {o : Oper} (h : ∀ t, .tmp t ∈ o.op.operands → lkp σ t = lkp σ' t) (hO : ∀ n ∈ namesAt σ O o, lkp O' n = lkp O n) : namesAt σ' O' o = namesAt σ O o := by
  rw [namesAt_slots h] at hO ⊢
  unfold namesAt at hO ⊢
  exact reach_congr _ _ hO

theorem lookIn_congr {O O' : List (Nat × AObj)} {ns : List Nat} (hO : ∀ n ∈ ns, lkp O' n = lkp O n) : lookIn O' ns = lookIn O ns := by
  funext n
  unfold lookIn
  cases hb : memB ns n with
  | false => rfl
  | true => simp only [cond_true]; exact hO n (memB_iff.1 hb)

theorem WantA.congr {o : Oper} {s t : St} {b : Bool} (h : ∀ d ∈ o.looksAt ops, lkp t.σ d = lkp s.σ d) (hw : WantA ops o s b) : WantA ops o t b := by
  unfold WantA at *
  split
  · rename_i hg; simp only [hg] at hw; exact hw
  · rename_i j want hg
    simp only [hg] at hw
    obtain ⟨dj, h1, h2⟩ := hw
    exact ⟨dj, h1, by rw [h dj (looks_guard hg h1)]; exact h2⟩

theorem updOk_congr {O O' : List (Nat × AObj)} {ns : List Nat} {d : Nat} : ∀ {u : Upd}, (∀ n ∈ u.map (·.1), lkp O n = none → lkp O' n = none) → updOk O ns d u = true → updOk O' ns d u = true
  | [], _, _ => rfl
  | (n, x) :: u, h, hu => by
    simp only [updOk, Bool.and_eq_true] at hu ⊢
    refine ⟨?_, updOk_congr (fun m hm => h m (List.mem_cons_of_mem _ hm)) hu.2⟩
    have h1 := hu.1
    cases hb : (Nat.beq (n / 8) d && Nat.blt (n % 8) 5) with
    | false => rw [hb] at h1; exact h1
    | true =>
      rw [hb] at h1
      simp only [cond_true, Option.isNone_iff_eq_none] at h1 ⊢
      exact h n List.mem_cons_self h1

theorem over_none {u : Upd} {n : Nat} : n ∉ u.map (·.1) → ∀ O : Nat → Option AObj, over u O n = O n := by
  intro h O
  unfold over
  have : lkp u n = none := by
    cases hl : lkp u n with
    | none => rfl
    | some x => exact (h (List.mem_map.2 ⟨(n, x), lkp_mem hl, rfl⟩)).elim
  rw [this]

theorem putF_ne {d : Option Nat} {v : AV} {σ : Nat → Option AV} {t : Nat} (h : d ≠ some t) : putF d v σ t = σ t := by
  cases d with
  | none => rfl
  | some e => exact upd_ne _ _ _ _ (fun e' => h (e' ▸ rfl))

theorem putF_comm {d e : Option Nat} {u v : AV} {σ : Nat → Option AV} (h : ∀ x, d = some x → e ≠ some x) : putF d u (putF e v σ) = putF e v (putF d u σ) := by
  cases d with
  | none => rfl
  | some d =>
    cases e with
    | none => rfl
    | some e =>
      have hne : e ≠ d := fun x => h d rfl (by rw [x])
      funext t
      show upd (upd σ e (some v)) d (some u) t = upd (upd σ d (some u)) e (some v) t
      unfold upd
      by_cases h1 : t = d
      · subst h1; simp [Ne.symm hne]
      · by_cases h2 : t = e <;> simp [h1, h2, hne]

theorem over_comm {u v : Upd} {O : Nat → Option AObj} (h : ∀ n ∈ u.map (·.1), n ∉ v.map (·.1)) : over u (over v O) = over v (over u O) := by
  funext n
  by_cases h1 : n ∈ u.map (·.1)
  · rw [over_none (h n h1)]
    unfold over
    cases lkp u n with
    | none => simp only; have := over_none (h n h1) O; unfold over at this; exact this
    | some x => rfl
  · rw [over_none h1]
    unfold over
    cases hl : lkp v n with
    | none => simp only; have := over_none h1 O; unfold over at this; exact this.symm
    | some x => rfl

/-- what an operation does to a state -/
structure Eff where
  b : Bool
  av : AV
  u : Upd

/-- the step, told through what it does -/
theorem Did.at {o : Oper} {s t : St} {x : Log} {s' : St} (h : Did c I o s x s') (hσ : ∀ d, .tmp d ∈ o.op.operands → lkp s.σ d = lkp t.σ d) (hO : ∀ n ∈ x.ns, lkp t.O n = lkp s.O n) (hw : ∀ n ∈ x.ws, lkp s.O n = none → lkp t.O n = none) :
    ∃ av u, x.ws = u.map (·.1) ∧ lkp s'.σ = putF o.dst av (lkp s.σ) ∧ lkp s'.O = over u (lkp s.O) ∧ ∀ t', lkp t'.σ = putF o.dst av (lkp t.σ) → lkp t'.O = over u (lkp t.O) → Did c I o t x t' := by
  obtain ⟨av, u, h1, h2, h3, h4, h5, h6⟩ := h.did
  refine ⟨av, u, h6, h3, h4, ?_⟩
  intro t' e1 e2
  rw [h5] at hO
  have hns : namesAt t.σ t.O o = namesAt s.σ s.O o := namesAt_congr hσ hO
  refine ⟨av, u, ?_, ?_, e1, e2, by rw [hns]; exact h5, h6⟩
  · rw [hns, lookIn_congr hO, ← opC_congr hσ]; exact h1
  · rw [hns]
    exact updOk_congr (by rw [← h6]; exact hw) h2

/-- two steps change places -/
theorem swap {oi oj : Oper} {xi xj : Log} {s s1 s2 : St} (hi : AStep c I nt ops oi s xi s1) (hj : AStep c I nt ops oj s1 xj s2) (hap : oi.apart ops oj = true) (hl : apartB xj xi = true) :
    ∃ t1, AStep c I nt ops oj s xj t1 ∧ AStep c I nt ops oi t1 xi s2 := by
  obtain ⟨a1, a2, a3⟩ := Oper.apart_spec hap
  simp only [apartB, Bool.and_eq_true, disjB_iff] at hl
  obtain ⟨⟨l1, l2⟩, l3⟩ := hl
  obtain ⟨di, hi⟩ := hi
  obtain ⟨dj, hj⟩ := hj
  -- what i has changed
  have hs1 : (∀ t, oi.dst ≠ some t → lkp s1.σ t = lkp s.σ t) ∧ (∀ n, n ∉ xi.ws → lkp s1.O n = lkp s.O n) := by
    rcases hi with ⟨_, hi⟩ | ⟨_, hi⟩
    · obtain ⟨av, u, _, _, h3, h4, _, h6⟩ := hi.did
      exact ⟨fun t ht => by rw [h3, putF_ne ht], fun n hn => by rw [h4, over_none (by rw [← h6]; exact hn)]⟩
    · exact ⟨fun t ht => by rw [hi.σ, putF_ne ht], fun n _ => by rw [hi.O]⟩
  have hσj : ∀ t ∈ oj.looksAt ops, lkp s.σ t = lkp s1.σ t := fun t ht => (hs1.1 t (fun e => a1 t e ht)).symm
  -- j first
  have hj1 : ∃ (avj : AV) (uj : Upd), xj.ws = uj.map (·.1) ∧ lkp s2.σ = putF oj.dst avj (lkp s1.σ) ∧ lkp s2.O = over uj (lkp s1.O) ∧
      ∀ t1, lkp t1.σ = putF oj.dst avj (lkp s.σ) → lkp t1.O = over uj (lkp s.O) → AStep c I nt ops oj s xj t1 := by
    rcases hj with ⟨wj, hj⟩ | ⟨wj, hj⟩
    · obtain ⟨av, u, h1, h2, h3, h4⟩ := hj.at (t := s) (fun d hd => (hσj d (looks_op hd)).symm) (fun n hn => (hs1.2 n (fun h => l3 n h hn)).symm) (fun n hn h0 => by
        rw [hs1.2 n (l2 n hn)] at h0; exact h0)
      exact ⟨av, u, h1, h2, h3, fun t1 e1 e2 => ⟨dj, .inl ⟨wj.congr hσj, h4 t1 e1 e2⟩⟩⟩
    · refine ⟨.tup [], [], by rw [hj.ws]; rfl, hj.σ, by rw [hj.O, over_nil], fun t1 e1 e2 => ⟨dj, .inr ⟨wj.congr hσj, ⟨e1, by rw [e2, over_nil], hj.ns, hj.ws⟩⟩⟩⟩
  obtain ⟨avj, uj, j1, j2, j3, j4⟩ := hj1
  have ht : ∃ t1 : St, lkp t1.σ = putF oj.dst avj (lkp s.σ) ∧ lkp t1.O = over uj (lkp s.O) := by
    refine ⟨⟨match oj.dst with | none => s.σ | some d => (d, avj) :: s.σ, uj ++ s.O⟩, ?_, (over_lkp _ _).symm⟩
    cases oj.dst with
    | none => rfl
    | some d =>
      funext t
      show lkp ((d, avj) :: s.σ) t = _
      rw [lkp_cons]; rfl
  obtain ⟨t1, e1, e2⟩ := ht
  refine ⟨t1, j4 t1 e1 e2, di, ?_⟩
  have hσi : ∀ t ∈ oi.looksAt ops, lkp t1.σ t = lkp s.σ t := fun t ht => by rw [e1, putF_ne (fun e => a3 t e ht)]
  have hput : ∀ av, putF oi.dst av (lkp t1.σ) = putF oj.dst avj (putF oi.dst av (lkp s.σ)) := by
    intro av
    rw [e1]
    exact putF_comm a2
  rcases hi with ⟨wi, hi⟩ | ⟨wi, hi⟩
  · refine .inl ⟨wi.congr hσi, ?_⟩
    obtain ⟨av, u, h1, h2, h3, h4⟩ := hi.at (t := t1) (fun d hd => (hσi d (looks_op hd)).symm) (fun n hn => by
        rw [e2, over_none (by rw [← j1]; exact fun h => l1 n h hn)]) (fun n hn h0 => by
        rw [e2, over_none (by rw [← j1]; exact fun h => l2 n h hn)]; exact h0)
    refine h4 s2 ?_ ?_
    · rw [hput, j2, h2]
    · rw [j3, h3, e2]
      exact over_comm (by rw [← h1, ← j1]; exact l2)
  · refine .inr ⟨wi.congr hσi, ?_, ?_, hi.ns, hi.ws⟩
    · rw [hput, j2, hi.σ]
    · rw [j3, e2, hi.O]
end
end Go.Proofs.R

/- A region in any order that is allowed; a region in the order of its list. -/
namespace Go.Proofs.R
open Go

/-- what lets a region that draws its order be told in the order of its list -/
def drawOk (ops : Array Oper) : Bool :=
  ops.toList.zipIdx.all fun q => q.1.after.toList.all (fun e => !Region.binds .any e || Nat.blt e.on q.2) &&
    ops.toList.zipIdx.all fun p => !Nat.blt p.2 q.2 || p.1.apart ops q.1 || befB ops p.2 8 q.2

section
variable {P : Program} {c : Ctx} {I : Interp c} {nt : Nat} {ops : Array Oper}

theorem drawOk_spec (h : drawOk ops = true) : (∀ j o, ops[j]? = some o → ∀ e ∈ o.after, Region.binds .any e = true → e.on < j) ∧
    ∀ i j oi oj, ops[i]? = some oi → ops[j]? = some oj → i < j → oi.apart ops oj = true ∨ befB ops i 8 j = true := by
  have hm : ∀ j o, ops[j]? = some o → (o, j) ∈ ops.toList.zipIdx := by
    intro j o ho
    rw [List.mem_zipIdx_iff_getElem?]
    simpa using ho
  simp only [drawOk, List.all_eq_true, Bool.and_eq_true] at h
  constructor
  · intro j o ho e he hb
    have := (h (o, j) (hm j o ho)).1 e (by simpa using he)
    rw [hb] at this
    simp only [Bool.not_true, Bool.false_or] at this
    exact Nat.le_of_ble_eq_true this
  · intro i j oi oj hi hj hij
    have := (h (oj, j) (hm j oj hj)).2 (oi, i) (hm i oi hi)
    have hlt : Nat.blt i j = true := Nat.ble_eq_true_of_le hij
    simp only [hlt, Bool.not_true, Bool.false_or, Bool.or_eq_true] at this
    exact this

def Closed (ops : Array Oper) (listed : Array Bool) : Prop :=
  ∀ j, listed.getD j false = true → ∀ o, ops[j]? = some o → ∀ e ∈ o.after, Region.binds .any e = true → listed.getD e.on false = true

theorem befB_listed {listed : Array Bool} (hc : Closed ops listed) {i : Nat} : ∀ (k j : Nat) (o : Oper), ops[j]? = some o → (∀ e ∈ o.after, Region.binds .any e = true → listed.getD e.on false = true) → befB ops i k j = true → listed.getD i false = true
  | 0, j, o, _, _, h => by simp [befB] at h
  | k + 1, j, o, ho, ha, h => by
    simp only [befB, ho, Bool.or_eq_true, List.any_eq_true, Bool.and_eq_true] at h
    rcases h with ⟨e, he, hb, hi⟩ | ⟨e, he, hb, hi⟩
    · rw [← Nat.eq_of_beq_eq_true hi]; exact ha e (by simpa using he) hb
    · have h1 := ha e (by simpa using he) hb
      cases ho' : ops[e.on]? with
      | none => cases k <;> simp [befB, ho'] at hi
      | some o' => exact befB_listed hc k e.on o' ho' (hc e.on h1 o' ho') hi

/-- in any order -/
def AAny (c : Ctx) (I : Interp c) (nt : Nat) (ops : Array Oper) (L : Nat → Log) (fin : St) : Nat → Array Bool → St → Prop
  | 0, listed, st => Region.ready .any ops listed = [] ∧ Eqv st fin
  | k + 1, listed, st => (Region.ready .any ops listed = [] → Eqv st fin) ∧
      ∀ i ∈ Region.ready .any ops listed, ∀ o, ops[i]? = some o → ∃ st', AStep c I nt ops o st (L i) st' ∧ AAny c I nt ops L fin k (listed.setIfInBounds i true) st'

theorem AAny.first {L : Nat → Log} {fin : St} {i : Nat} {oi : Oper} (hi : ops[i]? = some oi) : ∀ (fuel : Nat) (listed : Array Bool) (s s1 : St), Closed ops listed →
    (∀ j oj, ops[j]? = some oj → j ≠ i → listed.getD j true = false → (oi.apart ops oj = true ∧ apartB (L j) (L i) = true) ∨ befB ops i 8 j = true) →
    i ∈ Region.ready .any ops listed → AStep c I nt ops oi s (L i) s1 → AAny c I nt ops L fin fuel (listed.setIfInBounds i true) s1 → AAny c I nt ops L fin (fuel + 1) listed s := by
  intro fuel
  induction fuel with
  | zero =>
    intro listed s s1 hcl hfree hr hy H
    refine ⟨fun h => (by rw [h] at hr; cases hr), fun j hj oj hoj => ?_⟩
    by_cases hji : j = i
    · subst hji; rw [hi] at hoj; cases hoj; exact ⟨s1, hy, H⟩
    · have := ready_mono hj hji
      rw [H.1] at this
      cases this
  | succ fuel ih =>
    intro listed s s1 hcl hfree hr hy H
    refine ⟨fun h => (by rw [h] at hr; cases hr), fun j hj oj hoj => ?_⟩
    by_cases hji : j = i
    · subst hji; rw [hi] at hoj; cases hoj; exact ⟨s1, hy, H⟩
    · obtain ⟨hjun, oj', hoj', hall⟩ := mem_ready.1 hj
      rw [hoj] at hoj'; cases hoj'
      obtain ⟨s2, h1, h2⟩ := H.2 j (ready_mono hj hji) oj hoj
      have hiun := (mem_ready.1 hr).1
      have hiF : listed.getD i false ≠ true := by
        intro h
        rcases Nat.lt_or_ge i listed.size with h' | h'
        · simp [h'] at h hiun; rw [h] at hiun; cases hiun
        · simp [Array.getElem?_eq_none h'] at h
      have hap := (hfree j oj hoj hji hjun).resolve_right (fun hb => hiF (befB_listed hcl 8 j oj hoj hall hb))
      obtain ⟨t1, h3, h4⟩ := swap hy h1 hap.1 hap.2
      refine ⟨t1, h3, ih (listed.setIfInBounds j true) t1 s2 ?_ ?_ (ready_mono hr (Ne.symm hji)) h4 ?_⟩
      · intro k hk o ho e he hb
        by_cases hkj : j = k
        · subst hkj; rw [hoj] at ho; cases ho
          exact getD_set_true (hall e he hb)
        · rw [getD_set_ne false hkj] at hk
          exact getD_set_true (hcl k hk o ho e he hb)
      · intro k ok hk hki hun
        refine hfree k ok hk hki ?_
        by_cases hjk : j = k
        · subst hjk; exact hjun
        · rw [getD_set_ne true hjk] at hun; exact hun
      · rw [Array.setIfInBounds_comm _ _ hji]
        exact h2

/-- in the order of the list, with these logs -/
def ChainL (c : Ctx) (I : Interp c) (nt : Nat) (ops : Array Oper) (L : Nat → Log) (fin : St) : List Oper → Nat → St → Prop
  | [], _, st => st = fin
  | o :: l, k, st => ∃ st', AStep c I nt ops o st (L k) st' ∧ ChainL c I nt ops L fin l (k + 1) st'

theorem lex_any {L : Nat → Log} {fin : St} (hd : drawOk ops = true) (hL : ∀ i j, i < j → j < ops.size → apartB (L j) (L i) = true ∨ befB ops i 8 j = true) : ∀ (l : List Oper) (k : Nat) (listed : Array Bool) (s : St), (∀ j, l[j]? = ops[k + j]?) →
    listed.size = ops.size → (∀ j, j < ops.size → listed.getD j true = decide (j < k) ∧ listed.getD j false = decide (j < k)) → ChainL c I nt ops L fin l k s → AAny c I nt ops L fin l.length listed s
  | [], k, listed, s, hl, hsz, hls, h => by
    refine ⟨?_, by cases h; exact ⟨rfl, rfl⟩⟩
    rw [List.eq_nil_iff_forall_not_mem]
    intro j hj
    obtain ⟨hun, o, ho, _⟩ := mem_ready.1 hj
    have hlt : j < ops.size := (Array.getElem?_eq_some_iff.1 ho).1
    have hk : ops.size ≤ k := by
      have := hl 0
      simp only [List.getElem?_nil, Nat.add_zero] at this
      exact Array.getElem?_eq_none_iff.1 this.symm
    have := (hls j hlt).1
    rw [hun] at this
    have : decide (j < k) = true := by simp; omega
    simp_all
  | o :: l, k, listed, s, hl, hsz, hls, h => by
    obtain ⟨s1, h1, h2⟩ := h
    have h0 : ops[k]? = some o := by simpa using (hl 0).symm
    have hk : k < ops.size := (Array.getElem?_eq_some_iff.1 h0).1
    obtain ⟨d1, d2⟩ := drawOk_spec hd
    refine AAny.first h0 l.length listed s s1 ?_ ?_ ?_ h1 ?_
    · intro j hj oj hoj e he hb
      have hlt : j < ops.size := (Array.getElem?_eq_some_iff.1 hoj).1
      have hlj := (hls j hlt).2
      rw [hj] at hlj
      have hjk : j < k := by simpa using hlj.symm
      have := d1 j oj hoj e he hb
      rw [(hls e.on (by omega)).2]; simp; omega
    · intro j oj hoj hjk hun
      have hlt : j < ops.size := (Array.getElem?_eq_some_iff.1 hoj).1
      have := (hls j hlt).1
      rw [hun] at this
      have hkj : k < j := by have : ¬ j < k := by simpa using this.symm
                             omega
      rcases d2 k j o oj h0 hoj hkj with h3 | h3
      · rcases hL k j hkj hlt with h4 | h4
        · exact .inl ⟨h3, h4⟩
        · exact .inr h4
      · exact .inr h3
    · refine mem_ready.2 ⟨by rw [(hls k hk).1]; simp, o, h0, fun e he hb => ?_⟩
      have := d1 k o h0 e he hb
      rw [(hls e.on (by omega)).2]; simpa using this
    · refine lex_any hd hL l (k + 1) _ s1 (fun j => by have := hl (j + 1); simpa [Nat.add_assoc, Nat.add_comm 1 j] using this) (by simpa using hsz) ?_ h2
      intro j hj
      by_cases hkj : k = j
      · subst hkj
        have : (listed.setIfInBounds k true)[k]? = some true := by
          rw [Array.getElem?_setIfInBounds_self_of_lt (by omega)]
        simp [this]
      · rw [getD_set_ne true hkj, getD_set_ne false hkj, (hls j hj).1, (hls j hj).2]
        have : (j < k) ↔ (j < k + 1) := by omega
        simp [this]

end
end Go.Proofs.R

/- What is told of a region is so. -/
namespace Go.Proofs.R
open Go

section
variable {P : Program} {c : Ctx} {I : Interp c} {nt : Nat} {ops : Array Oper}

theorem putS_some {dst : Option Nat} {a : AV} {σ σ' : List (Nat × AV)} (h : putS nt dst a σ = some σ') : (∀ d, dst = some d → d < nt) ∧ lkp σ' = putF dst a (lkp σ) := by
  unfold putS at h
  cases dst with
  | none => cases h; exact ⟨by simp, rfl⟩
  | some d =>
    simp only at h
    cases hb : Nat.blt d nt with
    | false => rw [hb] at h; cases h
    | true =>
      rw [hb] at h; cases h
      refine ⟨?_, ?_⟩
      · intro e he; cases he; exact Nat.le_of_ble_eq_true hb
      · funext t; rw [lkp_cons]; rfl

theorem stepOp_some {ρ : Type} {st : St} {i : Nat} {o : Oper} {K : St → Log → Option ρ} {r : ρ} (h : stepOp c I nt st i o K = some r) :
    ∃ st' x, Did c I o st x st' ∧ x.i = i ∧ (∀ d, o.dst = some d → d < nt) ∧ K st' x = some r := by
  unfold stepOp at h
  rw [opC_nat] at h
  simp only [Option.bind_eq_some_iff] at h
  obtain ⟨⟨av, u⟩, h1, h⟩ := h
  simp only at h
  cases hb : updOk st.O (namesAt st.σ st.O o) (o.dst.getD 0) u with
  | false => rw [hb] at h; cases h
  | true =>
    rw [hb] at h; simp only [cond_true] at h
    split at h
    · rename_i σ' hσ
      obtain ⟨h2, h3⟩ := putS_some hσ
      exact ⟨_, _, ⟨av, u, h1, hb, h3, (over_lkp _ _).symm, rfl, rfl⟩, rfl, h2, h⟩
    · cases h

theorem Did.eqv {o : Oper} {s t s' : St} {x : Log} (he : Eqv s t) (h : Did c I o s x s') : Did c I o t x s' := by
  obtain ⟨av, u, _, h2, h3, h4⟩ := h.at (t := t) (fun d _ => by rw [he.1]) (fun n _ => by rw [he.2]) (fun n _ h0 => by rw [← he.2]; exact h0)
  exact h4 s' (by rw [← he.1]; exact h2) (by rw [← he.2]; exact h3)

def Chain (c : Ctx) (I : Interp c) (nt : Nat) (ops : Array Oper) (fin : St) : List (Oper × Nat) → List Log → St → Prop
  | [], [], st => st = fin
  | (o, i) :: r, x :: xs, st => x.i = i ∧ ∃ st', AStep c I nt ops o st x st' ∧ Chain c I nt ops fin r xs st'
  | _, _, _ => False

def okB (ops : Array Oper) (x y : Log) : Prop := apartB x y = true ∨ befB ops y.i 8 x.i = true
def OkL (ops : Array Oper) : List Log → List Log → Prop
  | _, [] => True
  | log, x :: xs => (∀ y ∈ log, okB ops x y) ∧ OkL ops (x :: log) xs

theorem OkL.more {y : Log} (h1 : y.ns = []) (h2 : y.ws = []) : ∀ {xs log log' : List Log}, (∀ z ∈ log', z ∈ log ∨ z = y) → OkL ops log xs → OkL ops log' xs
  | [], _, _, _, _ => trivial
  | x :: xs, log, log', hl, h => by
    refine ⟨?_, OkL.more h1 h2 (xs := xs) ?_ h.2⟩
    · intro z hz
      rcases hl z hz with hz | rfl
      · exact h.1 z hz
      · left
        simp only [apartB, Bool.and_eq_true, disjB_iff, h1, h2]
        simp
    · intro z hz
      rcases List.mem_cons.1 hz with rfl | hz
      · exact .inl List.mem_cons_self
      · exact (hl z hz).imp (List.mem_cons_of_mem _) id

theorem okLog_spec {x : Log} : ∀ {log : List Log}, okLog ops x log = true → ∀ y ∈ log, okB ops x y
  | [], _, y, hy => by cases hy
  | z :: log, h, y, hy => by
    simp only [okLog, Bool.and_eq_true, Bool.or_eq_true] at h
    rcases List.mem_cons.1 hy with rfl | hy
    · exact h.1
    · exact okLog_spec h.2 y hy

theorem evalOps_chain {ρ : Type} {dr : Bool} {r : ρ} : ∀ {L : List (Oper × Nat)} {st : St} {log : List Log} {K : St → Option ρ}, evalOps c I nt dr ops L st log K = some r →
    ∃ fin xs, Chain c I nt ops fin L xs st ∧ (dr = true → OkL ops log xs) ∧ K fin = some r
  | [], st, log, K, h => ⟨st, [], rfl, fun _ => trivial, h⟩
  | (o, i) :: L, st, log, K, h => by
    simp only [evalOps] at h
    split at h
    · rename_i hg
      obtain ⟨st', x, h1, h2, h3, h4⟩ := stepOp_some h
      cases hb : (!dr || okLog ops x log) with
      | false => rw [hb] at h4; cases h4
      | true =>
        rw [hb] at h4; simp only [cond_true] at h4
        obtain ⟨fin, xs, h5, h6, h7⟩ := evalOps_chain h4
        refine ⟨fin, x :: xs, ⟨h2, st', ⟨h3, .inl ⟨?_, h1⟩⟩, h5⟩, fun hd => ⟨okLog_spec (by rw [hd] at hb; simpa using hb), h6 hd⟩, h7⟩
        unfold WantA; rw [hg]
    · rename_i j want hg
      split at h
      · rename_i dj g hq
        simp only [Option.bind_eq_some_iff, Option.some.injEq, Prod.mk.injEq] at hq
        obtain ⟨dj', hd, a, ha, rfl, rfl⟩ := hq
        have he : Eqv ⟨(dj', .one (.v .bool g)) :: st.σ, st.O⟩ st := by
          refine ⟨?_, rfl⟩
          funext t
          show lkp ((dj', _) :: st.σ) t = _
          rw [lkp_cons]; split
          · rename_i e; subst e; exact ha.symm
          · rfl
        have hw : WantA ops o st (g == want) := by
          unfold WantA; rw [hg]; exact ⟨dj', Option.bind_eq_some_iff.2 hd, .inl ⟨g, ha, rfl⟩⟩
        have key : (bif (g == want) then stepOp c I nt ⟨(dj', .one (.v .bool g)) :: st.σ, st.O⟩ i o fun st' x => bif !dr || okLog ops x log then evalOps c I nt dr ops L st' (x :: log) K else none
          else match putS nt o.dst (.tup []) ((dj', .one (.v .bool g)) :: st.σ) with
            | some σ' => evalOps c I nt dr ops L ⟨σ', st.O⟩ log K
            | none => none) = some r := by
          cases g <;> exact h
        cases hgw : (g == want) with
        | true =>
          rw [hgw] at key hw; simp only [cond_true] at key
          obtain ⟨st', x, h1, h2, h3, h4⟩ := stepOp_some key
          cases hb : (!dr || okLog ops x log) with
          | false => rw [hb] at h4; cases h4
          | true =>
            rw [hb] at h4; simp only [cond_true] at h4
            obtain ⟨fin, xs, h5, h6, h7⟩ := evalOps_chain h4
            exact ⟨fin, x :: xs, ⟨h2, st', ⟨h3, .inl ⟨hw, h1.eqv he⟩⟩, h5⟩, fun hd => ⟨okLog_spec (by rw [hd] at hb; simpa using hb), h6 hd⟩, h7⟩
        | false =>
          rw [hgw] at key hw; simp only [cond_false] at key
          split at key
          · rename_i σ' hσ
            obtain ⟨h2, h3⟩ := putS_some hσ
            obtain ⟨fin, xs, h5, h6, h7⟩ := evalOps_chain key
            refine ⟨fin, ⟨i, [], []⟩ :: xs, ⟨rfl, ⟨σ', st.O⟩, ⟨h2, .inr ⟨hw, ⟨?_, rfl, rfl, rfl⟩⟩⟩, h5⟩, fun hd => ⟨?_, ?_⟩, h7⟩
            · rw [h3, he.1]
            · intro y _
              left
              simp [apartB, disjB_iff, disjB]
            · exact OkL.more rfl rfl (fun z hz => (List.mem_cons.1 hz).symm) (h6 hd)
          · cases key
      · rename_i dj hq
        simp only [Option.bind_eq_some_iff, Option.some.injEq, Prod.mk.injEq] at hq
        obtain ⟨dj', hd, a, ha, rfl, rfl⟩ := hq
        have hw : WantA ops o st false := by
          unfold WantA; rw [hg]; exact ⟨dj', Option.bind_eq_some_iff.2 hd, .inr ⟨ha, rfl⟩⟩
        split at h
        · rename_i σ' hσ
          obtain ⟨h2, h3⟩ := putS_some hσ
          obtain ⟨fin, xs, h5, h6, h7⟩ := evalOps_chain h
          refine ⟨fin, ⟨i, [], []⟩ :: xs, ⟨rfl, ⟨σ', st.O⟩, ⟨h2, .inr ⟨hw, ⟨h3, rfl, rfl, rfl⟩⟩⟩, h5⟩, fun hd => ⟨?_, ?_⟩, h7⟩
          · intro y _
            left
            simp [apartB, disjB_iff, disjB]
          · exact OkL.more rfl rfl (fun z hz => (List.mem_cons.1 hz).symm) (h6 hd)
        · cases h
      · cases h

theorem Chain.len {fin : St} : ∀ {L : List (Oper × Nat)} {xs : List Log} {st : St}, Chain c I nt ops fin L xs st → xs.length = L.length
  | [], [], _, _ => rfl
  | _ :: L, _ :: xs, _, ⟨_, _, _, h⟩ => by simp [Chain.len h]
  | [], _ :: _, _, h => by simp [Chain] at h
  | _ :: _, [], _, h => by simp [Chain] at h

theorem Chain.idx {fin : St} : ∀ {l : List Oper} {k : Nat} {xs : List Log} {st : St}, Chain c I nt ops fin (l.zipIdx k) xs st → ∀ j x, xs[j]? = some x → x.i = k + j
  | [], _, [], _, _, j, x, hx => by simp at hx
  | [], _, _ :: _, _, h, _, _, _ => by simp [Chain] at h
  | _ :: _, _, [], _, _, j, x, hx => by simp at hx
  | o :: l, k, y :: xs, st, h, j, x, hx => by
    rw [List.zipIdx_cons] at h
    obtain ⟨h1, st', _, h2⟩ := h
    cases j with
    | zero => simp at hx; subst hx; simpa using h1
    | succ j => rw [Chain.idx h2 j x (by simpa using hx)]; omega

theorem Chain.toL {fin : St} {XS : List Log} : ∀ {l : List Oper} {k : Nat} {xs : List Log} {st : St}, Chain c I nt ops fin (l.zipIdx k) xs st → (∀ j, xs[j]? = XS[k + j]?) → ChainL c I nt ops (fun j => (XS[j]?).getD ⟨0, [], []⟩) fin l k st
  | [], _, [], _, h, _ => h
  | [], _, _ :: _, _, h, _ => by simp [Chain] at h
  | _ :: _, _, [], _, h, _ => by simp [Chain] at h
  | o :: l, k, y :: xs, st, h, hx => by
    rw [List.zipIdx_cons] at h
    obtain ⟨h1, st', h3, h2⟩ := h
    refine ⟨st', ?_, Chain.toL h2 (fun j => by have := hx (j + 1); simpa [Nat.add_assoc, Nat.add_comm 1 j] using this)⟩
    have := hx 0
    simp only [List.getElem?_cons_zero, Nat.add_zero] at this
    show AStep c I nt ops o st ((XS[k]?).getD ⟨0, [], []⟩) st'
    rw [← this]; exact h3

theorem OkL.pair : ∀ {xs log : List Log}, OkL ops log xs → (∀ y ∈ log, ∀ (j : Nat) (x : Log), xs[j]? = some x → okB ops x y) ∧ ∀ (i j : Nat) (x y : Log), i < j → xs[i]? = some y → xs[j]? = some x → okB ops x y
  | [], _, _ => ⟨fun _ _ _ _ h => by simp at h, fun _ _ _ _ _ h => by simp at h⟩
  | z :: xs, log, h => by
    obtain ⟨h1, h2⟩ := OkL.pair h.2
    refine ⟨?_, ?_⟩
    · intro y hy j x hx
      cases j with
      | zero => simp at hx; subst hx; exact h.1 y hy
      | succ j => exact h1 y (List.mem_cons_of_mem _ hy) j x (by simpa using hx)
    · intro i j x y hij hy hx
      cases j with
      | zero => omega
      | succ j =>
        cases i with
        | zero => simp at hy; subst hy; exact h1 z List.mem_cons_self j x (by simpa using hx)
        | succ i => exact h2 i j x y (by omega) (by simpa using hy) (by simpa using hx)

/-! ### in memory -/
theorem size_put {a : Act} {d : Option Nat} {v : Value} : (a.put d v).tmps.size = a.tmps.size := by
  cases d <;> simp [Act.put]
theorem defers_put {a : Act} {d : Option Nat} {v : Value} : (a.put d v).defers = a.defers := by
  cases d <;> rfl

theorem Slots.put {p : RP} {σ : Nat → Option AV} {a : Act} {d : Option Nat} {av : AV} {v : Value} (hs : Slots p σ a.tmps) (hd : ∀ e, d = some e → e < a.tmps.size) (hv : RelAV p av v) : Slots p (putF d av σ) (a.put d v).tmps := by
  intro e x he
  cases d with
  | none => exact hs e x he
  | some d =>
    have hlt := hd d rfl
    unfold putF upd at he
    simp only at he
    split at he
    · rename_i e1; subst e1; cases he
      simp [Act.put, hlt]; exact hv
    · rename_i hne
      have := hs e x he
      simpa [Act.put, Array.getElem?_setIfInBounds_ne (Ne.symm hne)] using this

theorem updOk_new {O : List (Nat × AObj)} {ns : List Nat} {d : Nat} : ∀ {u : Upd}, updOk O ns d u = true → ∀ n o', (n, o') ∈ u → n / 8 = d → n % 8 < 5 → lkp O n = none
  | [], _, _, _, h, _, _ => by cases h
  | (m, x) :: u, hu, n, o', h, h1, h2 => by
    simp only [updOk, Bool.and_eq_true] at hu
    rcases List.mem_cons.1 h with h | h
    · have e : n = m := congrArg Prod.fst h
      rw [e] at h1 h2 ⊢
      have h3 : Nat.beq (m / 8) d = true := by rw [h1]; simp
      have h4 : Nat.blt (m % 8) 5 = true := Nat.ble_eq_true_of_le h2
      have := hu.1
      rw [h3, h4] at this
      simpa using this
    · exact updOk_new hu.2 n o' h h1 h2

theorem yielded_of {p : RP} {a : Act} {σ : Nat → Option AV} (hs : Slots p σ a.tmps) {j dj : Nat} {g : Bool} (h1 : (ops[j]?).bind (·.dst) = some dj) (h2 : σ dj = some (.one (.v .bool g))) : yielded ops a.tmps j = some g := by
  have := rel_bool (hs _ _ h2)
  unfold yielded
  rw [h1]
  simp only [Option.bind_some]
  cases ht : a.tmps[dj]? with
  | none => simp [ht, undef] at this
  | some v => simp [ht] at this; subst this; rfl

theorem yielded_tup {p : RP} {a : Act} {σ : Nat → Option AV} (hs : Slots p σ a.tmps) {j dj : Nat} (h1 : (ops[j]?).bind (·.dst) = some dj) (h2 : σ dj = some (.tup [])) : yielded ops a.tmps j = none := by
  obtain ⟨ws, h3, h4⟩ := hs _ _ h2
  unfold yielded
  rw [h1]
  simp only [Option.bind_some]
  cases ht : a.tmps[dj]? with
  | none => rfl
  | some v => simp [ht] at h3; subst h3; rfl

theorem step_ok (hE : EnvOk P c) (hI : Snd P c I) {F : Fr} {s s' : St} {x : Log} {o : Oper} {i : Nat} {a : Act} {w : World} {K : Act → World → Prop} {Q : Exit → Act → World → Prop} (h : AStep c I nt ops o s x s') (hi : ops[i]? = some o) (hg : Good F nt s a w)
    (hK : ∀ a' w', Good F nt s' a' w' → K a' w') : wpOp P ops Q i K a w := by
  obtain ⟨hd, h⟩ := h
  obtain ⟨S, β, hc, hs, hsz, hdf⟩ := hg
  have hwant : ∀ b, WantA ops o s b → Region.wanted o (yielded ops a.tmps) = b := by
    intro b hw
    unfold WantA at hw
    unfold Region.wanted
    split at hw
    · rename_i hg; rw [hg, hw]
    · rename_i j want hg
      obtain ⟨dj, h1, h2⟩ := hw
      rw [hg]
      rcases h2 with ⟨g, h2, rfl⟩ | ⟨h2, rfl⟩
      · simp only [yielded_of hs h1 h2]
        cases g <;> cases want <;> rfl
      · simp only [yielded_tup hs h1 h2]
        rfl
  unfold wpOp
  simp only [hi]
  rcases h with ⟨hw, h⟩ | ⟨hw, h⟩
  · rw [if_pos (hwant _ hw)]
    left
    obtain ⟨av, u, h1, h2, h3, h4, _, _⟩ := h.did
    refine opC_sound hE hI hc hs (lk := lookIn s.O (namesAt s.σ s.O o)) ?_ ?_ h1 (updOk_new h2) ?_
    · intro n o' hl
      unfold lookIn at hl
      cases hb : memB (namesAt s.σ s.O o) n with
      | false => rw [hb] at hl; cases hl
      | true => rw [hb] at hl; exact hl
    · intro n o' hl
      unfold lookIn at hl
      cases hb : memB (namesAt s.σ s.O o) n with
      | false => rw [hb] at hl; cases hl
      | true => exact memB_iff.1 hb
    · intro S' β' w' v hc' le hv
      refine hK _ _ ⟨S', β', by rw [h4]; exact hc', ?_, by rw [size_put, hsz], by rw [defers_put, hdf]⟩
      rw [h3, h4]
      exact (hs.le le).put (fun e he => by rw [hsz]; exact hd e he) hv
  · rw [hwant _ hw]
    simp only [Bool.false_eq_true, if_false]
    refine hK _ _ ⟨S, β, by rw [h.O]; exact hc, ?_, by rw [size_put, hsz], by rw [defers_put, hdf]⟩
    rw [h.σ, h.O]
    exact hs.put (fun e he => by rw [hsz]; exact hd e he) ⟨#[], rfl, rfl⟩

theorem any_ok (hE : EnvOk P c) (hI : Snd P c I) {F : Fr} {L : Nat → Log} {fin : St} {Q : Exit → Act → World → Prop} (hQ : ∀ a w, Good F nt fin a w → Q .normal a w) : ∀ (fuel : Nat) (listed : Array Bool) (s : St) (a : Act) (w : World), AAny c I nt ops L fin fuel listed s → Good F nt s a w →
    wpAny P .any ops Q fuel listed a w
  | 0, _, _, _, _, h, hg => ⟨h.1, hQ _ _ (hg.eqv h.2)⟩
  | fuel + 1, listed, s, a, w, h, hg => by
    refine ⟨fun h0 => hQ _ _ (hg.eqv (h.1 h0)), fun i hi => ?_⟩
    obtain ⟨_, o, ho, _⟩ := mem_ready.1 hi
    obtain ⟨s', h1, h2⟩ := h.2 i hi o ho
    exact step_ok hE hI h1 ho hg (fun a' w' hg' => any_ok hE hI hQ fuel _ s' a' w' h2 hg')

theorem chain_ok (hE : EnvOk P c) (hI : Snd P c I) {F : Fr} {fin : St} {Q : Exit → Act → World → Prop} (hQ : ∀ a w, Good F nt fin a w → Q .normal a w) : ∀ (l : List Oper) (k : Nat) (xs : List Log) (s : St) (a : Act) (w : World), (∀ j, l[j]? = ops[k + j]?) → Chain c I nt ops fin (l.zipIdx k) xs s → Good F nt s a w →
    wpOps P ops Q (List.range' k l.length) a w
  | [], k, [], s, a, w, _, h, hg => by cases h; exact hQ _ _ hg
  | [], _, _ :: _, _, _, _, _, h, _ => by simp [Chain] at h
  | _ :: _, _, [], _, _, _, _, h, _ => by simp [Chain] at h
  | o :: l, k, x :: xs, s, a, w, hl, h, hg => by
    rw [List.zipIdx_cons] at h
    obtain ⟨_, s', h1, h2⟩ := h
    rw [List.length_cons, List.range'_succ, wpOps_cons]
    have h0 : ops[k]? = some o := by simpa using (hl 0).symm
    exact step_ok hE hI h1 h0 hg (fun a' w' hg' => chain_ok hE hI hQ l (k + 1) xs s' a' w' (fun j => by have := hl (j + 1); simpa [Nat.add_assoc, Nat.add_comm 1 j] using this) h2 hg')

/-- a region -/
theorem region_ok (hE : EnvOk P c) (hI : Snd P c I) {F : Fr} {s : St} {a : Act} {w : World} {Q : Exit → Act → World → Prop} {ρ : Type} {r : ρ} {K : Ex → St → Option ρ} {draw : Bool} (hd : draw = true → drawOk ops = true) (h : evalRegion c I nt ops draw s K = some r) (hg : Good F nt s a w)
    (hQ : ∀ s' a w, Good F nt s' a w → K .normal s' = some r → Q .normal a w) (id : Nat) : (Code.region id ops draw).wp P Q a w := by
  obtain ⟨fin, xs, h1, h2, h3⟩ := evalOps_chain h
  cases draw with
  | false =>
    refine wp_region ?_
    have := chain_ok hE hI (Q := Q) (fun a w hg => hQ fin a w hg h3) ops.toList 0 xs s a w (by simp) h1 hg
    rw [List.range_eq_range']
    simpa using this
  | true =>
    refine wp_region_any hE.mixed ?_
    have hL := lex_any (c := c) (I := I) (nt := nt) (L := fun j => (xs[j]?).getD ⟨0, [], []⟩) (fin := fin) (hd rfl) (by
        intro i j hij hj
        have hlen := h1.len
        simp only [List.length_zipIdx, Array.length_toList] at hlen
        have hxi : xs[i]? = some xs[i] := List.getElem?_eq_getElem (by omega)
        have hxj : xs[j]? = some xs[j] := List.getElem?_eq_getElem (by omega)
        have := (OkL.pair (h2 rfl)).2 i j _ _ hij hxi hxj
        unfold okB at this
        rw [Chain.idx h1 i _ hxi, Chain.idx h1 j _ hxj] at this
        simp only [hxi, hxj, Option.getD_some]
        simpa using this) ops.toList 0 (Array.replicate ops.size false) s (by simp) (by simp) (by intro j hj; simp [hj]) (h1.toL (by simp))
    obtain ⟨S, β, hc, hs, hsz, hdf⟩ := hg
    obtain ⟨hc', le⟩ := hc.drawn (w.drawn + 1)
    have := any_ok hE hI (Q := Q) (fun a w hg => hQ fin a w hg h3) _ _ s a { w with drawn := w.drawn + 1 } hL ⟨S, β, hc', hs.le le, hsz, hdf⟩
    simpa using this
end
end Go.Proofs.R

/- A state, brought into one form: it tells the same memory. -/
namespace Go.Proofs.R
open Go

section
variable {P : Program} {c : Ctx} {I : Interp c} {nt : Nat}
variable {F : Fr} {S : CellSet} {β : Nat → Place} {O : Nat → Option AObj} {w : World}

/-! ### a nil slice becomes a row of the call's own -/
theorem own_slot {s : Nat} {e : TypeId} {t : Ty} {st st' : St} {a : Act} (hg : Good F nt st a w) (hg' : Good F nt st' a w) (hs : lkp st.σ s = some (.one (.nil e t))) {m : Nat} (hm : lkp st'.O m = none) :
    Good F nt ⟨(s, .one (.row m)) :: st'.σ, (m, .row e t [] false) :: st'.O⟩ a w := by
  obtain ⟨S0, β0, hc0, hs0, _, _⟩ := hg
  obtain ⟨S, β, hc, hsl, hsz, hdf⟩ := hg'
  obtain ⟨h1, h2⟩ := hc.newNil (e := e) (t := t) hm
  have hO : over [(m, AObj.row e t [] false)] (lkp st'.O) = lkp ((m, AObj.row e t [] false) :: st'.O) := over_lkp _ _
  rw [hO] at h1 h2
  refine ⟨S, _, h1, ?_, hsz, hdf⟩
  intro d v hd
  change lkp ((s, AV.one (.row m)) :: st'.σ) d = some v at hd
  rw [lkp_cons] at hd
  split at hd
  · rename_i e1
    have e2 := Option.some.inj hd
    subst e2
    rw [e1]
    have := hs0 _ _ hs
    rcases this with h | h
    · cases h
    · simp only [RelL, List.cons.injEq, and_true] at h
      rw [h]
      right
      unfold RelL
      simp [Fr.rp, lkp_cons, upd_same, addrOf]
  · exact RelAV_le h2 v (hsl d v hd)

/-- a box's leafs, told otherwise -/
theorem Core.rebox (h : Core F S β O w) {n : Nat} {T : TypeId} {ls ls' : List Lf} (hn : O n = some (.box T ls)) (hr : ∀ q : RP, (F.rp S β O w).le q → ∀ cs, RelLs q ls cs → q.O = upd O n (some (.box T ls')) → q.β = β → RelLs q ls' cs) :
    Core F S β (upd O n (some (.box T ls'))) w ∧ (F.rp S β O w).le (F.rp S β (upd O n (some (.box T ls'))) w) := by
  refine h.change (fun m => m = n) rfl rfl rfl (Nat.le_refl _) (fun _ _ _ => rfl) (fun _ _ h => h) (fun _ _ _ _ h => h) ?_ ?_ ?_ ?_ ?_ (fun _ _ h => .inl h) h.dom ?_ ?_
  · intro m hm; exact ⟨upd_ne _ _ _ _ hm, rfl⟩
  · rintro m o hO rfl
    rw [hn] at hO; cases hO
    exact ⟨_, upd_same _ _ _, .inr ⟨_, _, rfl⟩, fun _ => rfl⟩
  · rintro le m o hO rfl
    rw [upd_same] at hO; cases hO
    obtain ⟨b, arr, h1, h2, h3⟩ := h.obj _ _ hn
    exact ⟨b, arr, h1, h2, hr _ le _ (RelLs_le le _ h3) rfl rfl⟩
  · rintro m o b off rfl hO hl hb
    exact h.far m _ b off hn rfl hb
  · rintro m m' o1 o2 b x y rfl h1 h2 hl1 hl2 hb1 hb2
    by_cases e : m' = m
    · exact e.symm
    · rw [upd_ne _ _ _ _ e] at h2
      exact h.apart m m' _ o2 b x y hn h2 rfl hl2 hb1 hb2
  · intro b i m o off hs hO hl hb
    by_cases e : m = n
    · subst e
      obtain ⟨_, _, _, h1, _⟩ := h.still b i m _ off hs hn rfl hb
      cases h1
    · rw [upd_ne _ _ _ _ e] at hO
      exact h.still b i m o off hs hO hl hb
  · rintro m e t xs b off i rfl hO
    rw [upd_same] at hO; cases hO

theorem RelLs_set {p : RP} {l : Lf} : ∀ {ls : List Lf} {j : Nat} {l0 : Lf} {cs : List Value}, ls[j]? = some l0 → (∀ ds, RelL p l0 ds → RelL p l ds) → RelLs p ls cs → RelLs p (ls.set j l) cs
  | [], j, _, _, h, _, _ => by simp at h
  | x :: ls, 0, l0, _, h, hl, ⟨c, d, e, h1, h2⟩ => by
    simp at h; subst h; exact ⟨c, d, e, hl _ h1, h2⟩
  | x :: ls, j + 1, l0, _, h, hl, ⟨c, d, e, h1, h2⟩ => ⟨c, d, e, h1, RelLs_set (by simpa using h) hl h2⟩

theorem own_box {e : TypeId} {t : Ty} {st' : St} {a : Act} (hg' : Good F nt st' a w) {n j : Nat} {T : TypeId} {ls : List Lf} (hn : lkp st'.O n = some (.box T ls)) (hj : ls[j]? = some (.nil e t)) {m : Nat} (hm : lkp st'.O m = none) :
    Good F nt ⟨st'.σ, (n, .box T (ls.set j (.row m))) :: (m, .row e t [] false) :: st'.O⟩ a w := by
  obtain ⟨S, β, hc, hsl, hsz, hdf⟩ := hg'
  obtain ⟨h1, h2⟩ := hc.newNil (e := e) (t := t) hm
  have hO : over [(m, AObj.row e t [] false)] (lkp st'.O) = lkp ((m, AObj.row e t [] false) :: st'.O) := over_lkp _ _
  rw [hO] at h1 h2
  have hne : n ≠ m := by rintro rfl; rw [hn] at hm; cases hm
  have hn' : lkp ((m, AObj.row e t [] false) :: st'.O) n = some (.box T ls) := by rw [lkp_cons, if_neg hne]; exact hn
  obtain ⟨h3, h4⟩ := h1.rebox (ls' := ls.set j (.row m)) hn' (by
    intro q le cs hr hqO hqb
    refine RelLs_set hj ?_ hr
    intro ds hd
    simp only [RelL] at hd
    subst hd
    unfold RelL
    rw [hqO, hqb, upd_ne _ _ _ _ (Ne.symm hne)]
    simp [lkp_cons, upd_same, addrOf])
  have hO2 : upd (lkp ((m, AObj.row e t [] false) :: st'.O)) n (some (.box T (ls.set j (.row m)))) = lkp ((n, .box T (ls.set j (.row m))) :: (m, .row e t [] false) :: st'.O) := by
    funext k
    rw [lkp_cons]
    by_cases e1 : k = n
    · subst e1; simp [upd_same]
    · rw [upd_ne _ _ _ _ e1, if_neg e1]
  rw [hO2] at h3 h4
  exact ⟨S, _, h3, (hsl.le h2).le h4, hsz, hdf⟩

theorem own_ok {a : Act} {st : St} (hg : Good F nt st a w) : ∀ hs : List (Nat × Option Nat), Good F nt (ownNil st hs) a w
  | [] => hg
  | (s, none) :: r => by
    have ih := own_ok hg r
    unfold ownNil
    split
    · rename_i e t hs
      cases hb : (lkp (ownNil st r).O (s * 8 + 6)).isNone with
      | false => simpa [hb] using ih
      | true => simp only [hb, cond_true]; exact own_slot hg ih hs (by simpa using hb)
    · exact ih
  | (s, some j) :: r => by
    have ih := own_ok hg r
    unfold ownNil
    split
    · rename_i n hs
      simp only
      split
      · rename_i T ls hn
        split
        · rename_i e t hj
          cases hb : (lkp (ownNil st r).O ((s * 64 + j) * 8 + 5)).isNone with
          | false => simpa [hb] using ih
          | true => simp only [hb, cond_true]; exact own_box ih hn hj (by simpa using hb)
        · exact ih
      · exact ih
    · exact ih

/-! ### other names -/
structure Ren (m : Nat → Option Nat) (β β' : Nat → Place) (O O' : Nat → Option AObj) : Prop where
  inj : ∀ n1 n2 x, m n1 = some x → m n2 = some x → n1 = n2
  to : ∀ n n', m n = some n' → ∃ o, O n = some o ∧ O' n' = some (renObj m o) ∧ β' n' = β n
  of : ∀ n' o', O' n' = some o' → ∃ n o, m n = some n' ∧ O n = some o ∧ o' = renObj m o ∧ β' n' = β n

theorem One.of_rel {p : RP} {l : Lf} {cs : List Value} (h : RelL p l cs) (hl : l.size = 1) : One cs := by
  have h1 := RelL_len l h
  rw [hl] at h1
  match cs, h1 with
  | [v], _ => exact ⟨v, rfl, RelL_cells l h v (by simp)⟩

mutual
theorem ren_L {m : Nat → Option Nat} {O' : Nat → Option AObj} {β' : Nat → Place} (hr : Ren m β β' O O') : ∀ (l : Lf) {cs : List Value}, RelL (F.rp S β O w) l cs → RelL (F.rp S β' O' w) (renL m l) cs
  | .v t x, _, h => h
  | .nil _ _, _, h => h
  | .undef, _, h => h
  | .nilp, _, h => h
  | .mp n, cs, h => by
    unfold renL
    split
    · rename_i k hk
      obtain ⟨o, h1, h2, h3⟩ := hr.to n k hk
      unfold RelL at h ⊢
      simp only [Fr.rp] at h ⊢
      rw [h1] at h; rw [h2]
      cases o with
      | row e t xs fz => exact h.elim
      | box T ls => exact h.elim
      | iter s pos => exact h.elim
      | dead => exact h
      | mp k e t u m => simp only [renObj]; rw [h3]; exact h
    · exact One.of_rel h rfl
  | .clo f caps, _, ⟨vs, e, h⟩ => ⟨vs, e, ren_Ls hr caps h⟩
  | .pref ls off, _, ⟨b, o, ds, e, h, h2⟩ => ⟨b, o, ds, e, ren_Ls hr ls h, h2⟩
  | .row n, cs, h => by
    unfold renL
    split
    · rename_i k hk
      obtain ⟨o, h1, h2, h3⟩ := hr.to n k hk
      unfold RelL at h ⊢
      simp only [Fr.rp] at h ⊢
      rw [h1] at h; rw [h2]
      cases o with
      | box T ls => exact h.elim
      | iter s pos => exact h.elim
      | mp k e t u m => exact h.elim
      | dead => exact h
      | row e t xs fz => simp only [renObj]; rw [h3]; exact h
    · exact One.of_rel h rfl
  | .ref n off, cs, h => by
    unfold renL
    split
    · rename_i k hk
      obtain ⟨o, h1, h2, h3⟩ := hr.to n k hk
      unfold RelL at h ⊢
      simp only [Fr.rp] at h ⊢
      rw [h1] at h; rw [h2]
      cases o with
      | row e t xs fz => exact h.elim
      | dead => exact h
      | box T ls => simp only [renObj]; rw [h3]; exact h
      | iter s pos => simp only [renObj]; rw [h3]; exact h
      | mp k e t u m => exact h.elim
    · exact One.of_rel h rfl
  | .eref n i off, cs, h => by
    unfold renL
    split
    · rename_i k hk
      obtain ⟨o, h1, h2, h3⟩ := hr.to n k hk
      unfold RelL at h ⊢
      simp only [Fr.rp] at h ⊢
      rw [h1] at h; rw [h2]
      cases o with
      | box T ls => exact h.elim
      | iter s pos => exact h.elim
      | mp k e t u m => exact h.elim
      | dead => exact h
      | row e t xs fz => simp only [renObj]; rw [h3]; exact h
    · exact One.of_rel h rfl
theorem ren_Ls {m : Nat → Option Nat} {O' : Nat → Option AObj} {β' : Nat → Place} (hr : Ren m β β' O O') : ∀ (ls : List Lf) {cs : List Value}, RelLs (F.rp S β O w) ls cs → RelLs (F.rp S β' O' w) (renLs m ls) cs
  | [], _, h => h
  | l :: ls, _, ⟨c, d, e, h1, h2⟩ => ⟨c, d, e, ren_L hr l h1, ren_Ls hr ls h2⟩
end

theorem ren_Vl {m : Nat → Option Nat} {O' : Nat → Option AObj} {β' : Nat → Place} (hr : Ren m β β' O O') : ∀ (q : Bool × List Lf) {v : Value}, RelVl (F.rp S β O w) q v → RelVl (F.rp S β' O' w) (q.1, renLs m q.2) v
  | (true, ls), _, ⟨cs, e, h⟩ => ⟨cs, e, ren_Ls hr ls h⟩
  | (false, ls), _, ⟨l, e, h⟩ => by
    subst e
    refine ⟨renL m l, rfl, ?_⟩
    rcases h with rfl | h
    · exact .inl rfl
    · exact .inr (ren_L hr l h)
theorem ren_Vls {m : Nat → Option Nat} {O' : Nat → Option AObj} {β' : Nat → Place} (hr : Ren m β β' O O') : ∀ (qs : List (Bool × List Lf)) {vs : List Value}, RelVls (F.rp S β O w) qs vs → RelVls (F.rp S β' O' w) (qs.map fun q => (q.1, renLs m q.2)) vs
  | [], _, h => h
  | q :: qs, _, ⟨v, r, e, h1, h2⟩ => ⟨v, r, e, ren_Vl hr q h1, ren_Vls hr qs h2⟩
theorem ren_AV {m : Nat → Option Nat} {O' : Nat → Option AObj} {β' : Nat → Place} (hr : Ren m β β' O O') : ∀ (q : AV) {v : Value}, RelAV (F.rp S β O w) q v → RelAV (F.rp S β' O' w) (renAV m q) v
  | .one l, _, h => h.imp (fun e => by subst e; rfl) (ren_L hr l)
  | .agg ls, _, ⟨cs, e, h⟩ => ⟨cs, e, ren_Ls hr ls h⟩
  | .tup vs, _, ⟨ws, e, h⟩ => ⟨ws, e, ren_Vls hr vs h⟩

theorem renObj_live {m : Nat → Option Nat} {o : AObj} : (renObj m o).live = o.live := by cases o <;> rfl

theorem Core.ren {m : Nat → Option Nat} {O' : Nat → Option AObj} {β' : Nat → Place} (hr : Ren m β β' O O') (h : Core F S β O w) : Core F S β' O' w := by
  constructor
  · exact h.os
  · exact h.tape
  · exact h.output
  · exact h.size
  · exact h.keep
  · intro n' o' hO
    obtain ⟨n, o, _, h2, rfl, h4⟩ := hr.of n' o' hO
    have := h.obj n o h2
    cases o with
    | dead => trivial
    | iter s pos =>
      obtain ⟨b, h5, h6⟩ := this
      exact ⟨b, by show (β' n').1 = _; rw [h4]; exact h5, h6⟩
    | mp k e t u m =>
      obtain ⟨b, es, cl, h5, h6, h7⟩ := this
      exact ⟨b, es, cl, by show (β' n').1 = _; rw [h4]; exact h5, h6, h7⟩
    | box T ls =>
      obtain ⟨b, arr, h5, h6, h7⟩ := this
      exact ⟨b, arr, by show (β' n').1 = _; rw [h4]; exact h5, h6, ren_Ls hr ls h7⟩
    | row e t xs fz =>
      show ObjR (F.rp S β' O' w) n' (.row e t xs fz)
      unfold ObjR at this ⊢
      simp only [Fr.rp] at this ⊢
      rw [h4]; exact this
  · intro n' o' b off hO hl hb
    obtain ⟨n, o, _, h2, rfl, h4⟩ := hr.of n' o' hO
    rw [h4] at hb; rw [renObj_live] at hl
    exact h.far n o b off h2 hl hb
  · intro n1 n2 o1 o2 b x y hO1 hO2 hl1 hl2 hb1 hb2
    obtain ⟨m1, p1, e1, h2, rfl, h4⟩ := hr.of n1 o1 hO1
    obtain ⟨m2, p2, e2, h6, rfl, h8⟩ := hr.of n2 o2 hO2
    rw [h4] at hb1; rw [h8] at hb2; rw [renObj_live] at hl1 hl2
    have := h.apart m1 m2 p1 p2 b x y h2 h6 hl1 hl2 hb1 hb2
    subst this
    rw [e1] at e2; cases e2; rfl
  · exact h.sf
  · exact h.fresh
  · exact h.dom
  · intro b i n' o' off hs hO hl hb
    obtain ⟨n, o, _, h2, rfl, h4⟩ := hr.of n' o' hO
    rw [h4] at hb; rw [renObj_live] at hl
    obtain ⟨e, t, xs, rfl, h5⟩ := h.still b i n o off hs h2 hl hb
    exact ⟨e, t, xs, rfl, h5⟩
  · intro n' e t xs b off i hO hb h1 h2
    obtain ⟨n, o, _, h3, h4, h5⟩ := hr.of n' _ hO
    rw [h5] at hb
    cases o with
    | row e' t' xs' fz' =>
      simp only [renObj] at h4; cases h4
      exact h.froz n e t xs b off i h3 hb h1 h2
    | box T ls => cases h4
    | iter s pos => cases h4
    | mp k e t u m => cases h4
    | dead => cases h4

/-! ### the names that are kept -/
theorem indexIn_some : ∀ {ns : List Nat} {n k k' : Nat}, indexIn ns n k = some k' → ∃ j, k' = k + j ∧ ns[j]? = some n
  | [], _, _, _, h => by cases h
  | m :: ns, n, k, k', h => by
    simp only [indexIn] at h
    cases hb : Nat.beq m n with
    | true =>
      rw [hb] at h; cases h
      exact ⟨0, rfl, by simp [Nat.eq_of_beq_eq_true hb]⟩
    | false =>
      rw [hb] at h
      obtain ⟨j, h1, h2⟩ := indexIn_some h
      exact ⟨j + 1, by omega, by simpa using h2⟩
theorem newName_some {ns : List Nat} {n n' : Nat} (h : newName ns n = some n') : ∃ j, n' = j * 8 + 7 ∧ ns[j]? = some n := by
  unfold newName at h
  simp only [Option.bind_eq_some_iff, Option.some.injEq] at h
  obtain ⟨k, h1, rfl⟩ := h
  obtain ⟨j, rfl, h2⟩ := indexIn_some h1
  exact ⟨j, by omega, h2⟩

theorem nodup_get : ∀ {ns : List Nat}, nodupB ns = true → ∀ (i j n : Nat), ns[i]? = some n → ns[j]? = some n → i = j
  | [], _, _, _, _, h, _ => by simp at h
  | m :: ns, h, i, j, n, hi, hj => by
    simp only [nodupB, Bool.and_eq_true, Bool.not_eq_true'] at h
    have hm : m ∉ ns := by rw [← memB_iff, h.1]; simp
    cases i with
    | zero =>
      cases j with
      | zero => rfl
      | succ j =>
        simp at hi hj; subst hi
        exact (hm (List.mem_of_getElem? hj)).elim
    | succ i =>
      cases j with
      | zero =>
        simp at hi hj; subst hj
        exact (hm (List.mem_of_getElem? hi)).elim
      | succ j => rw [nodup_get h.2 i j n (by simpa using hi) (by simpa using hj)]

theorem newName_at : ∀ {ns : List Nat} {k j n : Nat}, nodupB ns = true → ns[j]? = some n → indexIn ns n k = some (k + j)
  | [], _, _, _, _, h => by simp at h
  | m :: ns, k, j, n, hd, h => by
    have hd' := hd
    simp only [nodupB, Bool.and_eq_true, Bool.not_eq_true'] at hd
    cases j with
    | zero => simp at h; subst h; simp [indexIn]
    | succ j =>
      have hne : Nat.beq m n = false := by
        rw [← Bool.not_eq_true]
        intro hb
        have := nodup_get hd' 0 (j + 1) n (by simp [Nat.eq_of_beq_eq_true hb]) h
        omega
      simp only [indexIn, hne, cond_false]
      rw [newName_at hd.2 (by simpa using h)]
      congr 1; omega

theorem liveNames_some {O : List (Nat × AObj)} : ∀ {ns : List Nat} {n : Nat}, n ∈ liveNames O ns → ∃ o, lkp O n = some o
  | m :: ns, n, h => by
    unfold liveNames at h
    split at h
    · exact liveNames_some h
    · exact liveNames_some h
    · rename_i h1 h2
      rcases List.mem_cons.1 h with rfl | h
      · cases ho : lkp O n with
        | none => exact (h2 ho).elim
        | some o => exact ⟨o, rfl⟩
      · exact liveNames_some h

theorem keepSlots_some {m : Nat → Option Nat} {σ : List (Nat × AV)} : ∀ {ks : List Nat} {s : Nat} {a : AV}, lkp (keepSlots m σ ks) s = some a → ∃ b, lkp σ s = some b ∧ a = renAV m b
  | k :: ks, s, a, h => by
    unfold keepSlots at h
    split at h
    · rename_i b hb
      rw [lkp_cons] at h
      split at h
      · rename_i e; subst e; cases h; exact ⟨b, hb, rfl⟩
      · exact keepSlots_some h
    · exact keepSlots_some h

theorem keepObjs_some {m : Nat → Option Nat} {O : List (Nat × AObj)} : ∀ {ns : List Nat} {k n' : Nat} {o' : AObj}, lkp (keepObjs m O ns k) n' = some o' → ∃ j n o, ns[j]? = some n ∧ n' = (k + j) * 8 + 7 ∧ lkp O n = some o ∧ o' = renObj m o
  | n :: ns, k, n', o', h => by
    unfold keepObjs at h
    split at h
    · rename_i b hb
      rw [lkp_cons] at h
      split at h
      · rename_i e; subst e; cases h; exact ⟨0, n, b, rfl, rfl, hb, rfl⟩
      · obtain ⟨j, n0, o, h1, h2, h3, h4⟩ := keepObjs_some h
        exact ⟨j + 1, n0, o, by simpa using h1, by rw [h2]; congr 2; omega, h3, h4⟩
    · obtain ⟨j, n0, o, h1, h2, h3, h4⟩ := keepObjs_some h
      exact ⟨j + 1, n0, o, by simpa using h1, by rw [h2]; congr 2; omega, h3, h4⟩

theorem keepObjs_at {m : Nat → Option Nat} {O : List (Nat × AObj)} : ∀ {ns : List Nat} {k j n : Nat} {o : AObj}, ns[j]? = some n → lkp O n = some o → lkp (keepObjs m O ns k) ((k + j) * 8 + 7) = some (renObj m o)
  | [], _, _, _, _, h, _ => by simp at h
  | n0 :: ns, k, j, n, o, h, ho => by
    unfold keepObjs
    cases j with
    | zero =>
      simp at h; subst h
      rw [ho]; simp only; rw [lkp_cons, if_pos (by omega)]
    | succ j =>
      have ih := keepObjs_at (m := m) (O := O) (ns := ns) (k := k + 1) (j := j) (n := n) (by simpa using h) ho
      rw [show k + 1 + j = k + (j + 1) from by omega] at ih
      split
      · rw [lkp_cons, if_neg (by omega)]; exact ih
      · exact ih

/-- a state in its one form -/
theorem canon_ok {ks : List Nat} {hs : List (Nat × Option Nat)} {st st' : St} {a : Act} (h : canon ks hs st = some st') (hg : Good F nt st a w) : Good F nt st' a w := by
  unfold canon at h
  simp only at h
  obtain ⟨S, β, hc, hsl, hsz, hdf⟩ := own_ok hg hs
  generalize ownNil st hs = s0 at *
  cases hb : nodupB (namesKept s0 ks) with
  | false => rw [hb] at h; cases h
  | true =>
    rw [hb] at h; simp only [cond_true, Option.some.injEq] at h; subst h
    have hlive : ∀ n, n ∈ namesKept s0 ks → ∃ o, lkp s0.O n = some o := fun n hn => liveNames_some hn
    generalize namesKept s0 ks = ns at *
    have hr : Ren (newName ns) β (fun n' => match ns[n' / 8]? with | some n => β n | none => (none, 0)) (lkp s0.O) (lkp (keepObjs (newName ns) s0.O ns 0)) := by
      have hβ : ∀ j n, ns[j]? = some n → (fun n' => match ns[n' / 8]? with | some n => β n | none => ((none, 0) : Place)) (j * 8 + 7) = β n := by
        intro j n hj
        have : (j * 8 + 7) / 8 = j := by omega
        simp only [this, hj]
      refine ⟨?_, ?_, ?_⟩
      · intro n1 n2 x h1 h2
        obtain ⟨j1, e1, h3⟩ := newName_some h1
        obtain ⟨j2, e2, h4⟩ := newName_some h2
        have : j1 = j2 := by omega
        subst this; rw [h3] at h4; cases h4; rfl
      · intro n n' hn
        obtain ⟨j, rfl, h3⟩ := newName_some hn
        obtain ⟨o, ho⟩ := hlive n (List.mem_of_getElem? h3)
        refine ⟨o, ho, ?_, hβ j n h3⟩
        have := keepObjs_at (m := newName ns) (k := 0) h3 ho
        simpa using this
      · intro n' o' hO
        obtain ⟨j, n, o, h1, rfl, h3, rfl⟩ := keepObjs_some hO
        simp only [Nat.zero_add]
        refine ⟨n, o, ?_, h3, rfl, hβ j n h1⟩
        unfold newName
        rw [newName_at (k := 0) hb h1]; simp
    refine ⟨S, _, hc.ren hr, ?_, hsz, hdf⟩
    intro d v hd
    obtain ⟨b, h1, rfl⟩ := keepSlots_some hd
    exact ren_AV hr b (hsl d b h1)
end
end Go.Proofs.R

