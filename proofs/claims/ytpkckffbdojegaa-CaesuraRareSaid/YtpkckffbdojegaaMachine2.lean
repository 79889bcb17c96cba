/- The evaluator of the model's code over told values, and that what it tells is so: part 3. No condition. -/
import Derived.Test.YtpkckffbdojegaaMachine1
import Derived.Laws.CopyRow
import Derived.WideKeyRuns
import Derived.Maps.RangeRun
import Derived.Still
set_option linter.unusedVariables false
set_option linter.unusedSimpArgs false
namespace Go.Proofs.R
open Go
section
variable {P : Program} {c : Ctx} {I : Interp c}
variable {F : Fr} {S : CellSet} {β : Nat → Place} {O : Nat → Option AObj} {w : World}

theorem appendOp_lk {ρ : Type} {lk lk1 : Nat → Option AObj} {d : Nat} {T : TypeId} {s x : Lf} {K : AV → Upd → Option ρ} (h1 : ∀ m, s = .row m → lk1 m = lk m) (h2 : ∀ m, x = .row m → lk1 m = lk m) :
    appendOp c lk1 d T s x K = appendOp c lk d T s x K := by
  have hr : rowsOf lk1 x = rowsOf lk x := by
    cases x with
    | v t x => cases t <;> rfl
    | row m => simp only [rowsOf]; rw [h2 _ rfl]
    | _ => rfl
  unfold appendOp
  rw [hr]
  cases s <;> first | rfl | (simp only; rw [h1 _ rfl])

/-- what append may change -/
theorem appendOp_upd {lk : Nat → Option AObj} {d : Nat} {T : TypeId} {s x : Lf} {av : AV} {u : Upd} (h : appendOp c lk d T s x two = some (av, u)) :
    (∃ e t zs, u = [(d * 8, .row e t zs false)] ∧ (∃ e' t', s = .nil e' t') ∧ av = .one (.row (d * 8))) ∨
    ∃ m e e2 t xs fz zs, s = .row m ∧ lk m = some (.row e2 t xs fz) ∧ u = [(m, .dead), (d * 8, .row e t zs fz)] ∧ av = .one (.row (d * 8)) := by
  unfold appendOp at h
  simp only [Option.bind_eq_some_iff] at h
  obtain ⟨te, _, h⟩ := h
  split at h
  · simp only [Option.bind_eq_some_iff] at h
    obtain ⟨ys, _, h⟩ := h
    cases hel : eltOk c T ys.1 with
    | false => rw [hel] at h; cases h
    | true =>
      rw [hel] at h; simp only [cond_true] at h
      split at h
      · rename_i e1 t1
        cases hq : Nat.beq _ e1 with
        | false => rw [hq] at h; cases h
        | true =>
          rw [hq] at h
          simp only [cond_true, bindD, Option.bind_eq_some_iff, two, Option.some.injEq, Prod.mk.injEq] at h
          obtain ⟨_, _, _, _, rfl, rfl⟩ := h
          exact .inl ⟨_, _, _, rfl, ⟨_, _, rfl⟩, rfl⟩
      · split at h
        · rename_i e1 t1 _ _ hl
          cases hq : Nat.beq _ e1 with
          | false => rw [hq] at h; cases h
          | true =>
            rw [hq] at h
            simp only [cond_true, bindD, Option.bind_eq_some_iff, two, Option.some.injEq, Prod.mk.injEq] at h
            obtain ⟨_, _, _, _, rfl, rfl⟩ := h
            exact .inr ⟨_, _, _, _, _, _, _, rfl, hl, rfl, rfl⟩
        · cases h
      · cases h
  · cases h

/-- a builder's two cells -/
theorem box_two (hc : Core F S β O w) {n : Nat} {T : TypeId} {a l : Lf} (hn : O n = some (.box T [a, l])) (ha : a.size = 1) (hl : l.size = 1) :
    ∃ b pa v, (β n).1 = some (b, 0) ∧ w.heap[b]? = some (.cells #[pa, v] T (0, 0)) ∧ RelL (F.rp S β O w) a [pa] ∧ RelL (F.rp S β O w) l [v] := by
  obtain ⟨b, arr, h1, h2, c1, d1, e, h3, c2, d2, e2, h4, h5⟩ := hc.obj n _ hn
  simp only [RelLs] at h5; subst h5
  have l1 := RelL_len a h3
  have l2 := RelL_len l h4
  rw [ha] at l1; rw [hl] at l2
  match c1, l1, c2, l2 with
  | [pa], _, [v], _ =>
    subst e2
    have : arr = #[pa, v] := by
      apply Array.ext'; rw [e]; rfl
    subst this
    exact ⟨b, pa, v, h1, h2, h3, h4⟩

theorem bapp_core (hE : EnvOk P c) (hc : Core F S β O w) {lk : Nat → Option AObj} (hlk : ∀ n o, lk n = some o → O n = some o) {d : Nat} (hd : O (d * 8) = none) {T U X : TypeId} (hX : (slOk c X || strOk c X) = true) {n : Nat} {x : Lf} {vx : Value}
    (hx : ∀ q : RP, (F.rp S β O w).le q → RelL q x [vx]) (hxn : ∀ m, x = .row m → lk m ≠ none ∧ m ≠ n) {r av : AV} {u : Upd} (h : bappOp c lk d T U n x r two = some (av, u)) :
    av = r ∧ ∃ b pa v v' uu w2 S' β', (β n).1 = some (b, 0) ∧ w.heap[b]? = some (.cells #[pa, v] T (0, 0)) ∧ (pa = .pointer none ∨ pa = .pointer (some ⟨b, 0, none⟩)) ∧
      (Builtin.append_ #[U, X] U #[v, vx]).run P (w.setRow b #[.pointer (some ⟨b, 0, none⟩), v]) = .ok v' w2 ∧ (∃ A n m, v' = .slice A n m) ∧ w2.heap[b]? = some (.cells #[.pointer (some ⟨b, 0, none⟩), uu] T (0, 0)) ∧
      Core F S' β' (over u O) (w2.setRow b #[.pointer (some ⟨b, 0, none⟩), v']) ∧ (F.rp S β O w).le (F.rp S' β' (over u O) (w2.setRow b #[.pointer (some ⟨b, 0, none⟩), v'])) := by
  unfold bappOp at h
  split at h
  · rename_i T' a l hn
    cases hb : (Nat.beq T T' && selfOk a n) with
    | false => rw [hb] at h; cases h
    | true =>
      rw [hb] at h; simp only [cond_true] at h
      simp only [Bool.and_eq_true] at hb
      obtain ⟨hT, hself⟩ := hb
      have hT := Nat.eq_of_beq_eq_true hT
      subst hT
      rw [appendOp_nat] at h
      simp only [Option.bind_eq_some_iff] at h
      obtain ⟨⟨av0, u0⟩, happ, h⟩ := h
      have hO := hlk n _ hn
      have hup := appendOp_upd happ
      have hasz : a.size = 1 := by
        unfold selfOk at hself
        split at hself
        · rfl
        · rfl
        · cases hself
      have hlsz : l.size = 1 := by
        rcases hup with ⟨_, _, _, _, ⟨_, _, rfl⟩, _⟩ | ⟨_, _, _, _, _, _, _, rfl, _⟩ <;> rfl
      obtain ⟨b, pa, v, hb1, hb2, hpa, hv⟩ := box_two hc hO hasz hlsz
      have hpa' : pa = .pointer none ∨ pa = .pointer (some ⟨b, 0, none⟩) := by
        unfold selfOk at hself
        split at hself
        · simp only [RelL, List.cons.injEq, and_true] at hpa; exact .inl hpa
        · rename_i m
          have := Nat.eq_of_beq_eq_true hself
          subst this
          unfold RelL at hpa; simp only [Fr.rp] at hpa; rw [hO] at hpa; simp only at hpa
          obtain ⟨b', h3, h4⟩ := hpa
          rw [hb1] at h3; simp only [Option.some.injEq, Prod.mk.injEq, and_true] at h3; subst h3
          simp only [List.cons.injEq, and_true] at h4
          exact .inr h4
        · cases hself
      have hselfrel : RelL (F.rp S β O w) (.ref n 0) [.pointer (some ⟨b, 0, none⟩)] := by
        unfold RelL; simp only [Fr.rp]; rw [hO]; exact ⟨b, hb1, rfl⟩
      -- the mark
      obtain ⟨hc1, le1⟩ := hc.write hO rfl (o' := .box T [.ref n 0, l]) (.inr ⟨_, _, rfl⟩) rfl hb1 (by intro e t xs hh; cases hh) (by intro e t xs hh; cases hh) #[.pointer (some ⟨b, 0, none⟩), v] (by
        intro q hle hbq hwq
        refine ⟨b, #[.pointer (some ⟨b, 0, none⟩), v], by rw [hbq]; exact hb1, by rw [hwq]; exact setRow_heap w b _ _ T (0, 0) hb2, [_], [v], rfl, RelL_le hle _ hselfrel, [v], [], rfl, RelL_le hle _ hv, rfl⟩)
      -- the append
      have hmn : ∀ m, l = .row m → m ≠ n := by
        rintro m rfl rfl
        rcases hup with ⟨_, _, _, _, ⟨_, _, he⟩, _⟩ | ⟨_, _, _, _, _, _, _, he, hm, _⟩
        · cases he
        · cases he; rw [hn] at hm; cases hm
      have hdn : d * 8 ≠ n := by rintro rfl; rw [hO] at hd; cases hd
      have hlk1 : ∀ m o, (fun m => if m = n then none else lk m) m = some o → upd O n (some (.box T [.ref n 0, l])) m = some o := by
        intro m o hm
        simp only at hm
        split at hm
        · cases hm
        · rename_i hne; rw [upd_ne _ _ _ _ hne]; exact hlk m o hm
      have happ1 : appendOp c (fun m => if m = n then none else lk m) d U l x two = some (av0, u0) := by
        rw [← happ]
        refine appendOp_lk ?_ ?_
        · intro m hm; show (if m = n then none else lk m) = _; rw [if_neg (hmn m hm)]
        · intro m hm; show (if m = n then none else lk m) = _; rw [if_neg (hxn m hm).2]
      obtain ⟨v', w2, S', β', hrun, hc2, le2, hav⟩ := appendOp_run hE hc1 hlk1 (by rw [upd_ne _ _ _ _ hdn]; exact hd) hX (RelL_le le1 _ hv) (hx _ le1) happ1 U
      -- the new slice
      have hu0n : ∀ O' : Nat → Option AObj, over u0 O' n = O' n := by
        intro O'
        rcases hup with ⟨_, _, _, rfl, _, _⟩ | ⟨m, _, _, _, _, _, _, hl, _, rfl, _⟩
        · rw [over_cons, over_nil, upd_ne _ _ _ _ (Ne.symm hdn)]
        · rw [over_cons, over_cons, over_nil, upd_ne _ _ _ _ (Ne.symm (hmn m hl)), upd_ne _ _ _ _ (Ne.symm hdn)]
      have hO2 : over u0 (upd O n (some (.box T [.ref n 0, l]))) n = some (.box T [.ref n 0, l]) := by rw [hu0n, upd_same]
      have hy : ∃ y, av0 = .one y ∧ y ≠ .undef := by
        rcases hup with ⟨_, _, _, _, _, rfl⟩ | ⟨_, _, _, _, _, _, _, _, _, _, rfl⟩ <;> exact ⟨_, rfl, by simp⟩
      obtain ⟨y, rfl, hyu⟩ := hy
      have hyrel := hav.resolve_left hyu
      have hslice : ∃ A n m, v' = .slice A n m := by
        unfold RelL at hyrel
        rcases hup with ⟨_, _, _, rfl, _, hy⟩ | ⟨m, _, _, _, _, _, _, hl, _, rfl, hy⟩
        · cases hy
          simp only [Fr.rp] at hyrel
          rw [over_cons, over_nil, upd_same] at hyrel
          simp only [List.cons.injEq, and_true] at hyrel
          exact ⟨_, _, _, hyrel⟩
        · cases hy
          have hmd : d * 8 ≠ m := by
            rintro rfl
            rw [hlk _ _ ‹lk (d * 8) = _›] at hd; cases hd
          simp only [Fr.rp] at hyrel
          rw [over_cons, over_cons, over_nil, upd_ne _ _ _ _ hmd, upd_same] at hyrel
          simp only [List.cons.injEq, and_true] at hyrel
          exact ⟨_, _, _, hyrel⟩
      obtain ⟨b2, pa2, v2, g1, g2, g3, _⟩ := box_two hc2 hO2 rfl hlsz
      have hbb : b2 = b := by
        obtain ⟨o', ho', _, hβ⟩ := le2.obj n _ (show (F.rp S β (upd O n (some (.box T [.ref n 0, l]))) (w.setRow b #[.pointer (some ⟨b, 0, none⟩), v])).O n = _ from upd_same _ _ _)
        simp only [Fr.rp] at ho' hβ
        rw [hO2] at ho'; cases ho'
        rw [hβ rfl, hb1] at g1; simpa using g1.symm
      subst hbb
      have hpa2 : pa2 = .pointer (some ⟨b2, 0, none⟩) := by
        unfold RelL at g3; simp only [Fr.rp] at g3; rw [hO2] at g3; simp only at g3
        obtain ⟨b', h3, h4⟩ := g3
        rw [g1] at h3; simp only [Option.some.injEq, Prod.mk.injEq, and_true] at h3; subst h3
        simpa using h4
      subst hpa2
      have hself2 : RelL (F.rp S' β' (over u0 (upd O n (some (.box T [.ref n 0, l])))) w2) (.ref n 0) [.pointer (some ⟨b2, 0, none⟩)] := g3
      obtain ⟨hc3, le3⟩ := hc2.write hO2 rfl (o' := .box T [.ref n 0, y]) (.inr ⟨_, _, rfl⟩) rfl g1 (by intro e t xs hh; cases hh) (by intro e t xs hh; cases hh) #[.pointer (some ⟨b2, 0, none⟩), v'] (by
        intro q hle hbq hwq
        refine ⟨b2, #[.pointer (some ⟨b2, 0, none⟩), v'], by rw [hbq]; exact g1, by rw [hwq]; exact setRow_heap w2 b2 _ _ T (0, 0) g2, [_], [v'], rfl, RelL_le hle _ hself2, [v'], [], rfl, RelL_le hle _ hyrel, rfl⟩)
      simp only [two, Option.some.injEq, Prod.mk.injEq] at h
      obtain ⟨rfl, rfl⟩ := h
      have hOO : over ((n, .box T [.ref n 0, y]) :: u0) O = upd (over u0 (upd O n (some (.box T [.ref n 0, l])))) n (some (.box T [.ref n 0, y])) := by
        rw [over_cons]
        funext k
        by_cases hk : k = n
        · subst hk; rw [upd_same, upd_same]
        · rw [upd_ne _ _ _ _ hk, upd_ne _ _ _ _ hk]
          unfold over
          rw [upd_ne _ _ _ _ hk]
      rw [hOO]
      refine ⟨rfl, b2, pa, v, v', v2, w2, S', β', hb1, hb2, hpa', hrun, hslice, g2, hc3, ?_⟩
      refine le_trans_same (le_trans_same le1 le2 ?_) le3 (fun _ _ _ _ _ _ => ?_)
      · intro k o o' hk hk' hlive
        obtain ⟨o1, ho1, _, hβ⟩ := le1.obj k o hk
        obtain ⟨o2, ho2, _, hβ2⟩ := le2.obj k o1 ho1
        simp only [Fr.rp] at hk' ho2 hβ2 ⊢
        rw [hk'] at ho2; cases ho2
        exact hβ2 hlive
      · rename_i k o o' hk hk' hlive
        obtain ⟨o1, ho1, _, hβ⟩ := le1.obj k o hk
        obtain ⟨o2, ho2, hto2, hβ2⟩ := le2.obj k o1 ho1
        obtain ⟨o3, ho3, hto3, _⟩ := le3.obj k o2 ho2
        simp only [Fr.rp] at hk' ho2 ho3 hβ2 ⊢
        rw [hk'] at ho3; cases ho3
        refine hβ2 ?_
        cases o2 with
        | dead => simp only [AObj.to] at hto3; subst hto3; cases hlive
        | _ => rfl
  · cases h

theorem bapp_new {lk : Nat → Option AObj} {d : Nat} {T U : TypeId} {n : Nat} {x : Lf} {r av : AV} {u : Upd} (h : bappOp c lk d T U n x r two = some (av, u)) :
    (∃ o', (d * 8, o') ∈ u) ∧ ∃ a l, lk n = some (.box T [a, l]) := by
  unfold bappOp at h
  split at h
  · rename_i T' a l hn
    cases hb : (Nat.beq T T' && selfOk a n) with
    | false => rw [hb] at h; cases h
    | true =>
      rw [hb] at h; simp only [cond_true] at h
      simp only [Bool.and_eq_true] at hb
      have hT := Nat.eq_of_beq_eq_true hb.1
      subst hT
      rw [appendOp_nat] at h
      simp only [Option.bind_eq_some_iff] at h
      obtain ⟨⟨av0, u0⟩, happ, h⟩ := h
      refine ⟨?_, _, _, hn⟩
      rcases appendOp_upd happ with ⟨_, _, _, rfl, _, rfl⟩ | ⟨_, _, _, _, _, _, _, _, _, rfl, rfl⟩
      · simp only [two, Option.some.injEq, Prod.mk.injEq] at h
        obtain ⟨_, rfl⟩ := h
        exact ⟨_, List.mem_cons_of_mem _ List.mem_cons_self⟩
      · simp only [two, Option.some.injEq, Prod.mk.injEq] at h
        obtain ⟨_, rfl⟩ := h
        exact ⟨_, List.mem_cons_of_mem _ (List.mem_cons_of_mem _ List.mem_cons_self)⟩
  · cases h

theorem push_setRow (w : World) (b : Nat) (cs : Array Value) (o : Obj) (hb : b < w.heap.size) : ({ w with heap := w.heap.push o } : World).setRow b cs = { w.setRow b cs with heap := (w.setRow b cs).heap.push o } := by
  unfold World.setRow
  simp only
  congr 1
  apply Array.ext
  · simp
  · intro i h1 h2
    simp only [Array.getElem_modify, Array.getElem_push, Array.size_modify, Array.size_push] at h1 h2 ⊢
    by_cases hi : i < w.heap.size
    · simp [hi]
    · have : i ≠ b := by omega
      simp [hi, Ne.symm this]

theorem ref_ptr (hc : Core F S β O w) {n : Nat} {T : TypeId} {ls : List Lf} (hn : O n = some (.box T ls)) {b : Nat} (hb : (β n).1 = some (b, 0)) {v : Value} (h : RelAV (F.rp S β O w) (.one (.ref n 0)) v) : v = .pointer (some ⟨b, 0, none⟩) := by
  have h := h.resolve_left (by simp)
  unfold RelL at h; simp only [Fr.rp] at h; rw [hn] at h; simp only at h
  obtain ⟨b', h1, h2⟩ := h
  rw [hb] at h1; simp only [Option.some.injEq, Prod.mk.injEq, and_true] at h1; subst h1
  simpa using h2
theorem args_eq {args : Array Value} {l : List Value} (h : args.toList = l) : args = l.toArray := by
  apply Array.ext'; rw [h]

theorem bwrite_ok (hE : EnvOk P c) (hc : Core F S β O w) {lk : Nat → Option AObj} (hlk : ∀ n o, lk n = some o → O n = some o) {d : Nat} {f : FuncId} {T U X : TypeId} (hk : c.intr f = some (.bwrite T U X)) {vs : List AV} {args : Array Value}
    (hr : RelAVs (F.rp S β O w) vs args.toList) {av : AV} {u : Upd} (h : intrOp c I lk d (.bwrite T U X) vs two = some (av, u)) (hnew : ∀ n o', (n, o') ∈ u → n / 8 = d → n % 8 < 5 → O n = none) :
    Calls P f args w fun e w' => ∃ v S' β', e = .returned v ∧ Core F S' β' (over u O) w' ∧ (F.rp S β O w).le (F.rp S' β' (over u O) w') ∧ RelAV (F.rp S' β' (over u O) w') av v := by
  obtain ⟨_, hspec⟩ := hE.intr _ _ hk
  unfold intrOp at h
  split at h
  · rename_i T' U' X' n s heq
    cases heq
    cases hX : strOk c X with
    | false => rw [hX] at h; cases h
    | true =>
      rw [hX] at h; simp only [cond_true] at h
      obtain ⟨⟨o', hm⟩, a, l, hn⟩ := bapp_new h
      have hd := hnew _ _ hm (by omega) (by omega)
      obtain ⟨v1, r1, e1, h1, v2, r2, e2, h2, h3⟩ := hr
      simp only [RelAVs] at h3; subst h3; subst e2
      have hv2 : v2 = .string s := by
        have := h2.resolve_left (by simp)
        simpa [RelL, Rd] using this
      subst hv2
      obtain ⟨rfl, b, pa, v, v', uu, w2, S', β', g1, g2, g3, g4, gs, g5, g6, g7⟩ := bapp_core hE hc hlk hd (X := X) (by rw [hX]; simp) (vx := .string s) (fun q hq => RelL_le hq _ (h2.resolve_left (by simp))) (by intro m hm; cases hm) h
      have hv1 := ref_ptr hc (hlk _ _ hn) g1 h1
      subst hv1
      have := args_eq e1
      subst this
      refine (hspec w w2 b pa v v' uu s g2 g3 g4 gs g5).mono ?_
      rintro e w' ⟨rfl, rfl⟩
      refine ⟨_, S', β', rfl, g6, g7, _, rfl, ?_⟩
      exact ⟨_, _, rfl, ⟨_, rfl, .inr rfl⟩, _, _, rfl, ⟨_, rfl, .inl rfl⟩, rfl⟩
  all_goals first | contradiction | cases h

theorem bbyte_ok (hE : EnvOk P c) (hc : Core F S β O w) {lk : Nat → Option AObj} (hlk : ∀ n o, lk n = some o → O n = some o) {d : Nat} {f : FuncId} {T U X e : TypeId} (hk : c.intr f = some (.bbyte T U X e)) {vs : List AV} {args : Array Value}
    (hr : RelAVs (F.rp S β O w) vs args.toList) {av : AV} {u : Upd} (h : intrOp c I lk d (.bbyte T U X e) vs two = some (av, u)) (hnew : ∀ n o', (n, o') ∈ u → n / 8 = d → n % 8 < 5 → O n = none) :
    Calls P f args w fun e w' => ∃ v S' β', e = .returned v ∧ Core F S' β' (over u O) w' ∧ (F.rp S β O w).le (F.rp S' β' (over u O) w') ∧ RelAV (F.rp S' β' (over u O) w') av v := by
  obtain ⟨_, hspec⟩ := hE.intr _ _ hk
  unfold intrOp at h
  split at h
  · contradiction
  · rename_i T' U' X' e' n x heq
    cases heq
    cases hX : slOk c X with
    | false => rw [hX] at h; cases h
    | true =>
      rw [hX] at h; simp only [cond_true] at h
      rw [bappOp_nat] at h
      simp only [Option.bind_eq_some_iff, two, Option.some.injEq, Prod.mk.injEq] at h
      obtain ⟨⟨av1, u1⟩, h, rfl, rfl⟩ := h
      have h : bappOp c (fun k => bif Nat.beq k (d * 8 + 1) then some (.row e (.int .u8) [x] false) else lk k) d T U n (.row (d * 8 + 1)) (.one .undef) two = some (av1, u1) := h
      obtain ⟨⟨o', hm⟩, a, l, hn⟩ := bapp_new h
      have hd := hnew _ _ (List.mem_append_left _ hm) (by omega) (by omega)
      have hd1 := hnew (d * 8 + 1) _ (List.mem_append_right _ List.mem_cons_self) (by omega) (by omega)
      have hne : n ≠ d * 8 + 1 := by
        rintro rfl
        simp only [Nat.beq_refl, cond_true] at hn; cases hn
      have hn' : lk n = some (.box T [a, l]) := by
        have hb : Nat.beq n (d * 8 + 1) = false := by
          cases hq : Nat.beq n (d * 8 + 1)
          · rfl
          · exact absurd (Nat.eq_of_beq_eq_true hq) hne
        rw [hb] at hn; exact hn
      obtain ⟨v1, r1, e1, h1, v2, r2, e2, h2, h3⟩ := hr
      simp only [RelAVs] at h3; subst h3; subst e2
      have hv2 : v2 = .int .u8 x := by
        have := h2.resolve_left (by simp)
        simpa [RelL, Rd] using this
      subst hv2
      obtain ⟨hc1, le1⟩ := hc.new hd1 (.row e (.int .u8) [x] false) (by intro _ _ _ hh; cases hh) (.cells #[.int .u8 x] e (0, 0)) 1 (by
        intro q hq hb hw
        refine .inr ⟨w.heap.size, 0, #[.int .u8 x], [.int .u8 x], [], by rw [hb], hw, by rw [hb]; exact Nat.le_refl _, rfl, ⟨[.int .u8 x], [], rfl, rfl, rfl⟩, by rw [hb]; exact Nat.le_refl _, Nat.zero_le _, ?_⟩
        intro v hv; simp at hv; subst hv; rfl)
      have hx : RelL (F.rp S (upd β (d * 8 + 1) (some (w.heap.size, 0), 1)) (upd O (d * 8 + 1) (some (.row e (.int .u8) [x] false))) { w with heap := w.heap.push (.cells #[.int .u8 x] e (0, 0)) }) (.row (d * 8 + 1)) [.slice (some ⟨w.heap.size, 0, none⟩) 1 1] := by
        unfold RelL; simp only [Fr.rp, upd_same]; rfl
      have hlk1 : ∀ m o, (fun k => bif Nat.beq k (d * 8 + 1) then some (AObj.row e (.int .u8) [x] false) else lk k) m = some o → upd O (d * 8 + 1) (some (.row e (.int .u8) [x] false)) m = some o := by
        intro m o hm
        simp only at hm
        cases hq : Nat.beq m (d * 8 + 1)
        · rw [hq] at hm
          have : m ≠ d * 8 + 1 := by rintro rfl; simp [Nat.beq_refl] at hq
          rw [upd_ne _ _ _ _ this]; exact hlk _ _ hm
        · rw [hq] at hm
          rw [Nat.eq_of_beq_eq_true hq, upd_same]; exact hm
      obtain ⟨rfl, b, pa, v, v', uu, w2, S', β', g1, g2, g3, g4, gs, g5, g6, g7⟩ := bapp_core hE hc1 hlk1 (by rw [upd_ne _ _ _ _ (by omega)]; exact hd) (X := X) (by rw [hX]; simp) (vx := .slice (some ⟨w.heap.size, 0, none⟩) 1 1) (fun q hq => RelL_le hq _ hx)
        (by intro m hm; cases hm; exact ⟨by simp [Nat.beq_refl], Ne.symm hne⟩) h
      have hOn := hlk _ _ hn'
      rw [upd_ne _ _ _ _ hne] at g1
      obtain ⟨b', arr, k1, k2, _⟩ := hc.obj n _ hOn
      simp only [Fr.rp] at k1 k2
      rw [g1] at k1; simp only [Option.some.injEq, Prod.mk.injEq, and_true] at k1; subst k1
      have hblt : b < w.heap.size := (Array.getElem?_eq_some_iff.1 k2).1
      have hv1 := ref_ptr hc hOn g1 h1
      subst hv1
      have := args_eq e1
      subst this
      have g2' : w.heap[b]? = some (.cells #[pa, v] T (0, 0)) := by
        rw [← g2]; exact (getElem?_push_lt _ _ _ hblt).symm
      rw [push_setRow _ _ _ _ hblt] at g4
      refine (hspec w w2 b pa v v' uu x g2' g3 g4 gs g5).mono ?_
      rintro e0 w' ⟨rfl, rfl⟩
      rw [over_append, over_cons, over_nil]
      refine ⟨_, S', β', rfl, g6, le_trans_same le1 g7 ?_, .inl rfl⟩
      intro k o1 o2 hk hk2 hlive
      obtain ⟨o3, ho3, _, hβ⟩ := le1.obj k o1 hk
      obtain ⟨o4, ho4, hto4, hβ4⟩ := g7.obj k o3 ho3
      simp only [Fr.rp] at hk hk2 ho3 ho4 hβ hβ4 ⊢
      rw [hk2] at ho4; cases ho4
      rw [hβ4 hlive]
      exact upd_ne _ _ _ _ (by rintro rfl; rw [hd1] at hk; cases hk)
  all_goals first | contradiction | cases h

theorem kill_core (hc : Core F S β O w) {m : Nat} {e : TypeId} {t : Ty} {xs : List t.V} (hm : O m = some (.row e t xs false)) {w' : World} (h1 : w'.os = w.os) (h2 : w'.tape = w.tape) (h3 : w'.output = w.output) (h3d : w.drawn ≤ w'.drawn) (h4 : w.heap.size ≤ w'.heap.size)
    (hkeep : ∀ k, k < w.heap.size → (∀ off, (β m).1 ≠ some (k, off)) → w'.heap[k]? = w.heap[k]?) :
    Core F S β (upd O m (some .dead)) w' ∧ (F.rp S β O w).le (F.rp S β (upd O m (some .dead)) w') := by
  refine hc.change (fun k => k = m) h1 h2 h3 h3d h4 (fun k hk hb => hkeep k hk fun off => hb m _ off hm rfl rfl) (fun _ _ h => h) ?_ ?_ ?_ ?_ ?_ ?_ (fun _ _ h => .inl h) ?_ ?_ ?_
  · intro b i v hs hv
    rw [← hv]; refine cellAt_block (hkeep b (hc.dom b i hs) fun off hb => ?_)
    obtain ⟨_, _, _, h, _⟩ := hc.still b i m _ off hs hm rfl hb
    cases h
  · intro k hk; exact ⟨upd_ne _ _ _ _ hk, rfl⟩
  · rintro k o hO rfl
    rw [hm] at hO; cases hO
    exact ⟨.dead, upd_same _ _ _, .inl rfl, fun h => by cases h⟩
  · rintro _ k o hO rfl
    rw [upd_same] at hO; cases hO; trivial
  · rintro k o b off rfl hO hl _
    rw [upd_same] at hO; cases hO; cases hl
  · rintro k j o o' b x y rfl hO _ hl
    rw [upd_same] at hO; cases hO; cases hl
  · intro b i hs; exact Nat.lt_of_lt_of_le (hc.dom b i hs) h4
  · intro b i k o off hs hO hl hb
    by_cases hk : k = m
    · subst hk; rw [upd_same] at hO; cases hO; cases hl
    · rw [upd_ne _ _ _ _ hk] at hO; exact hc.still b i k o off hs hO hl hb
  · rintro k e t xs b off i rfl hO
    rw [upd_same] at hO; cases hO

theorem bytes_cells {S : CellSet} {w : World} : ∀ {cs : List Value} {xs : List Int}, RdsOf (Rd S w (.int .u8)) cs xs → (∀ x ∈ xs, 0 ≤ x ∧ x < 256) → cs = (xs.map fun n => UInt8.ofNat n.toNat).map fun b => .int .u8 (b.toNat : Int)
  | _, [], h, _ => h
  | _, x :: xs, ⟨c, d, e, h1, h2⟩, hb => by
    subst e
    have hx := hb x (by simp)
    simp only [Rd] at h1; subst h1
    rw [bytes_cells h2 (fun y hy => hb y (by simp [hy]))]
    have : ((UInt8.ofNat x.toNat).toNat : Int) = x := by
      rw [UInt8.toNat_ofNat']; omega
    simp only [List.map_cons, List.singleton_append, this]

theorem bstr_ok (hE : EnvOk P c) (hc : Core F S β O w) {lk : Nat → Option AObj} (hlk : ∀ n o, lk n = some o → O n = some o) {d : Nat} {f : FuncId} {T e : TypeId} (hk : c.intr f = some (.bstr T e)) {vs : List AV} {args : Array Value}
    (hr : RelAVs (F.rp S β O w) vs args.toList) {av : AV} {u : Upd} (h : intrOp c I lk d (.bstr T e) vs two = some (av, u)) :
    Calls P f args w fun e w' => ∃ v S' β', e = .returned v ∧ Core F S' β' (over u O) w' ∧ (F.rp S β O w).le (F.rp S' β' (over u O) w') ∧ RelAV (F.rp S' β' (over u O) w') av v := by
  obtain ⟨_, hspec⟩ := hE.intr _ _ hk
  unfold intrOp at h
  split at h
  · contradiction
  · contradiction
  · rename_i T' e' n heq
    cases heq
    unfold bstrOp at h
    split at h
    · rename_i T' a l hn
      cases hb : (Nat.beq T T' && selfOk a n) with
      | false => rw [hb] at h; cases h
      | true =>
        rw [hb] at h; simp only [cond_true] at h
        simp only [Bool.and_eq_true] at hb
        obtain ⟨hT, hself⟩ := hb
        have hT := Nat.eq_of_beq_eq_true hT
        subst hT
        have hO := hlk n _ hn
        have hasz : a.size = 1 := by
          unfold selfOk at hself
          split at hself
          · rfl
          · rfl
          · cases hself
        obtain ⟨v1, r1, e1, h1, h3⟩ := hr
        simp only [RelAVs] at h3; subst h3
        split at h
        · rename_i e0 t0
          simp only [two, Option.some.injEq, Prod.mk.injEq] at h
          obtain ⟨rfl, rfl⟩ := h
          obtain ⟨b, pa, v, g1, g2, _, g4⟩ := box_two hc hO hasz rfl
          have hv1 := ref_ptr hc hO g1 h1
          subst hv1
          have := args_eq e1
          subst this
          simp only [RelL, List.cons.injEq, and_true] at g4
          refine (hspec w b pa v [] (by simp) g2 (.inl ⟨g4, rfl⟩)).mono ?_
          rintro e w' ⟨rfl, k1, k2, k3, k3d, k4, k5⟩
          obtain ⟨k6, k7⟩ := grown_core hc k1 k2 k3 k3d k4 (fun k hk => k5 k hk fun g o m n hv => by rw [g4] at hv; cases hv)
          rw [over_nil]
          exact ⟨_, S, β, rfl, k6, k7, .inr rfl⟩
        · rename_i m
          split at h
          · rename_i e0 t xs hm
            cases he : Nat.beq e e0 with
            | false => rw [he] at h; cases h
            | true =>
              rw [he] at h
              have he := Nat.eq_of_beq_eq_true he
              subst he
              simp only [cond_true, bindD, Option.bind_eq_some_iff, two, Option.some.injEq, Prod.mk.injEq] at h
              obtain ⟨ys, hys, st, hst, rfl, rfl⟩ := h
              obtain ⟨et, hys⟩ := castV_len hys
              cases et
              have hys : xs = ys := hys
              subst hys
              unfold bytesOf at hst
              split at hst
              · rename_i hall
                simp only [Bool.and_eq_true] at hall
                obtain ⟨hall, hlen⟩ := hall
                have hlen := Nat.le_of_ble_eq_true hlen
                simp only [Option.some.injEq] at hst
                subst hst
                have hall : ∀ x ∈ xs, 0 ≤ x ∧ x < 256 := by
                  intro x hx
                  have := List.all_eq_true.1 hall x hx
                  simpa using this
                obtain ⟨b, pa, v, g1, g2, _, g4⟩ := box_two hc hO hasz rfl
                have hv1 := ref_ptr hc hO g1 h1
                subst hv1
                have := args_eq e1
                subst this
                have hOm := hlk m _ hm
                unfold RelL at g4; simp only [Fr.rp] at g4; rw [hOm] at g4; simp only [List.cons.injEq, and_true] at g4
                have hrow := hc.obj m _ hOm
                have hsp : (v = .slice none 0 0 ∧ (xs.map fun n => UInt8.ofNat n.toNat) = []) ∨ ∃ g o cap arr rest, g ≠ b ∧ v = .slice (some ⟨g, o, none⟩) (xs.map fun n => UInt8.ofNat n.toNat).length cap ∧ w.heap[g]? = some (.cells arr e (0, 0)) ∧
                    (xs.map fun n => UInt8.ofNat n.toNat).length ≤ cap ∧ arr.toList.drop o = ((xs.map fun n => UInt8.ofNat n.toNat).map fun x => .int .u8 x.toNat) ++ rest ∧ o + cap ≤ arr.size := by
                  rcases hrow with ⟨q1, rfl⟩ | ⟨g, o, arr, cs, rest, q1, q2, q3, q4, q5, q6, _⟩
                  · simp only [Fr.rp] at q1
                    exact .inl ⟨by rw [g4, q1]; rfl, rfl⟩
                  · simp only [Fr.rp] at q1 q2 q3 q5 q6
                    refine .inr ⟨g, o, (β m).2, arr, rest, ?_, ?_, q2, by simpa using q3, ?_, by simpa [Ty.size] using q6⟩
                    · rintro rfl
                      have := hc.apart m n _ _ g o 0 hOm hO rfl rfl q1 g1
                      subst this
                      rw [hO] at hOm; cases hOm
                    · rw [g4, q1]; simp [addrOf]
                    · rw [q4, bytes_cells q5 hall]
                refine (hspec w b pa v _ (by simpa using hlen) g2 hsp).mono ?_
                rintro e w' ⟨rfl, k1, k2, k3, k3d, k4, k5⟩
                obtain ⟨k6, k7⟩ := kill_core hc hOm k1 k2 k3 k3d k4 (fun k hk hne => k5 k hk fun g o m' n' hv => by
                  rintro rfl
                  rw [g4] at hv
                  cases hq : (β m).1 with
                  | none => rw [hq] at hv; cases hv
                  | some p =>
                    rw [hq] at hv
                    simp only [addrOf, Value.slice.injEq, Option.some.injEq, Addr.mk.injEq] at hv
                    obtain ⟨⟨rfl, rfl, _⟩, _⟩ := hv
                    exact hne p.2 hq)
                rw [over_cons, over_nil]
                exact ⟨_, S, β, rfl, k6, k7, .inr rfl⟩
              · cases hst
          · cases h
        · cases h
    · cases h
  all_goals first | contradiction | cases h

theorem adopt_core (hc : Core F S β O w) {d g cap : Nat} {e : TypeId} {t : Ty} {arr : Array Value} (hd : O d = none) {w' : World} (h1 : w'.os = w.os) (h2 : w'.tape = w.tape) (h3 : w'.output = w.output) (h3d : w.drawn ≤ w'.drawn) (h4 : w.heap.size ≤ w'.heap.size)
    (hkeep : ∀ k, k < w.heap.size → w'.heap[k]? = w.heap[k]?) (hg : w.heap.size ≤ g) (hgh : w'.heap[g]? = some (.cells arr e (0, 0))) (hcap : cap * t.size ≤ arr.size) (hone : ∀ v ∈ arr.toList, v.oneCell' = true) :
    Core F S (upd β d (some (g, 0), cap)) (upd O d (some (.row e t [] false))) w' ∧ (F.rp S β O w).le (F.rp S (upd β d (some (g, 0), cap)) (upd O d (some (.row e t [] false))) w') := by
  refine hc.change (fun k => k = d) h1 h2 h3 h3d h4 (fun k hk _ => hkeep k hk) (fun _ _ h => h) ?_ ?_ ?_ ?_ ?_ ?_ (fun _ _ h => .inl h) ?_ ?_ ?_
  · intro b i v hs hv; rw [← hv]; exact cellAt_block (hkeep b (hc.dom b i hs))
  · intro k hk; exact ⟨upd_ne _ _ _ _ hk, upd_ne _ _ _ _ hk⟩
  · rintro k o hO rfl; rw [hd] at hO; cases hO
  · rintro _ k o hO rfl
    rw [upd_same] at hO; cases hO
    refine .inr ⟨g, 0, arr, [], arr.toList, by simp [Fr.rp, upd_same], hgh, by simp, by simp, rfl, ?_, Nat.zero_le _, hone⟩
    simp only [Fr.rp, upd_same]; omega
  · rintro k o b off rfl hO _ hb
    rw [upd_same] at hb
    simp only [Option.some.injEq, Prod.mk.injEq] at hb
    obtain ⟨rfl, _⟩ := hb
    exact .inl (Nat.le_trans hc.size hg)
  · rintro k j o o' b x y rfl hO hO' hl hl' hb hb'
    by_cases hj : j = k
    · exact hj.symm
    · rw [upd_same] at hb
      simp only [Option.some.injEq, Prod.mk.injEq] at hb
      obtain ⟨rfl, _⟩ := hb
      rw [upd_ne _ _ _ _ hj] at hO' hb'
      have := ObjR_block (hc.obj j o' hO') hl' hb'
      exact absurd (show g < w.heap.size from this) (by omega)
  · intro b i hs; exact Nat.lt_of_lt_of_le (hc.dom b i hs) h4
  · intro b i k o off hs hO hl hb
    by_cases hk : k = d
    · subst hk
      rw [upd_same] at hb
      simp only [Option.some.injEq, Prod.mk.injEq] at hb
      obtain ⟨rfl, _⟩ := hb
      have := hc.dom _ _ hs
      omega
    · rw [upd_ne _ _ _ _ hk] at hO hb
      exact hc.still b i k o off hs hO hl hb
  · rintro k e t xs b off i rfl hO
    rw [upd_same] at hO; cases hO

theorem grow_intr_ok (hE : EnvOk P c) (hc : Core F S β O w) {lk : Nat → Option AObj} {d : Nat} {f : FuncId} {T : TypeId} (hk : c.intr f = some (.grow T)) {vs : List AV} {args : Array Value}
    (hr : RelAVs (F.rp S β O w) vs args.toList) {av : AV} {u : Upd} (h : intrOp c I lk d (.grow T) vs two = some (av, u)) (hnew : ∀ n o', (n, o') ∈ u → n / 8 = d → n % 8 < 5 → O n = none) :
    Calls P f args w fun e w' => ∃ v S' β', e = .returned v ∧ Core F S' β' (over u O) w' ∧ (F.rp S β O w).le (F.rp S' β' (over u O) w') ∧ RelAV (F.rp S' β' (over u O) w') av v := by
  obtain ⟨_, hspec⟩ := hE.intr _ _ hk
  unfold intrOp at h
  split at h
  · contradiction
  · contradiction
  · contradiction
  · rename_i T' e t n heq
    cases heq
    simp only [Option.bind_eq_some_iff] at h
    obtain ⟨te, hte, h⟩ := h
    split at h
    · rename_i e' hde
      cases hb : (Nat.beq e e' && eltOk c T t) with
      | false => rw [hb] at h; cases h
      | true =>
        rw [hb] at h
        simp only [Bool.and_eq_true] at hb
        obtain ⟨he, hel⟩ := hb
        have he := Nat.eq_of_beq_eq_true he
        subst he
        simp only [cond_true] at h
        by_cases hn : n < 0
        · rw [decide_eq_true hn] at h; cases h
        · rw [decide_eq_false hn] at h
          have h : (bindD (Go.Proofs.R.grow n.toNat) fun _ => two (.one (.row (d * 8))) [(d * 8, .row e t [] false)]) = some (av, u) := h
          simp only [bindD, Option.bind_eq_some_iff, two, Option.some.injEq, Prod.mk.injEq] at h
          obtain ⟨_, hg, rfl, rfl⟩ := h
          have hgl := grow_le hg
          unfold mostLen at hgl
          have hn0 : (0 : Int) ≤ n := Int.not_lt.1 hn
          have hn1 : (n : Int) ≤ 4294967296 := by
            have h4 : ((n : Int).toNat : Int) = n := Int.toNat_of_nonneg hn0
            have h5 : ∀ m : Nat, m ≤ 4294967296 → (m : Int) ≤ 4294967296 := fun m hm => by omega
            rw [← h4]; exact h5 _ hgl
          have hd := hnew _ _ List.mem_cons_self (by omega) (by omega)
          obtain ⟨e1, ee, hTu, hee, hsz, hpos, te', hte', hde'⟩ := eltOk_spec hE hel
          rw [hte] at hte'; cases hte'
          rw [hde] at hde'; cases hde'
          obtain ⟨i, zv, hi, hisz, _⟩ := (hE.te e ee hee).info
          obtain ⟨v1, r1, e1, h1, v2, r2, e2, h2, h3⟩ := hr
          simp only [RelAVs] at h3; subst h3; subst e2
          have hv1 : v1 = .slice none 0 0 := by
            have := h1.resolve_left (by simp)
            simpa [RelL] using this
          have hv2 : v2 = .int .i64 n := by
            have := h2.resolve_left (by simp)
            simpa [RelL, Rd] using this
          subst hv1; subst hv2
          have := args_eq e1
          subst this
          refine (hspec e hTu w n hn0 hn1).mono ?_
          rintro ex w' ⟨A, cap, rfl, k1, k2, k3, k3d, k4, k5, k6⟩
          have hov : over [(d * 8, AObj.row e t ([] : List t.V) false)] O = upd O (d * 8) (some (.row e t [] false)) := by rw [over_cons, over_nil]
          rcases k6 with ⟨rfl, rfl⟩ | ⟨g, arr, i', rfl, q1, q2, q3, q4, q5⟩
          · obtain ⟨c1, l1⟩ := grown_core hc k1 k2 k3 k3d k4 k5
            obtain ⟨c2, l2⟩ := c1.newNil (e := e) (t := t) hd
            try rw [hov] at c2 l2
            rw [hov]
            refine ⟨_, _, _, rfl, c2, le_trans_same l1 l2 ?_, .inr ?_⟩
            · intro k o o' hk hk' _
              simp only [Fr.rp] at hk hk' ⊢
              have hkd : k ≠ d * 8 := by rintro rfl; rw [hd] at hk; cases hk
              exact upd_ne _ _ _ _ hkd
            · unfold RelL; simp only [Fr.rp, upd_same]; rfl
          · rw [hi] at q3; cases q3
            obtain ⟨c2, l2⟩ := adopt_core (t := t) hc hd k1 k2 k3 k3d k4 k5 q1 q2 (by rw [← hsz, ← hisz]; exact q4) q5
            rw [hov]
            refine ⟨_, _, _, rfl, c2, l2, .inr ?_⟩
            unfold RelL; simp only [Fr.rp, upd_same]; rfl
    · cases h
  all_goals first | contradiction | cases h

theorem RdsOf_rev {α : Type} {R : List Value → α → Prop} (h1 : ∀ c x, R c x → c.length = 1) : ∀ {cs : List Value} {xs : List α}, RdsOf R cs xs → RdsOf R cs.reverse xs.reverse
  | cs, [], h => by simp only [RdsOf] at h; subst h; rfl
  | cs, x :: xs, ⟨c, d, e, h2, h3⟩ => by
    subst e
    have hl := h1 _ _ h2
    match c, hl with
    | [v], _ =>
      rw [List.singleton_append, List.reverse_cons, List.reverse_cons]
      exact RdsOf_append (RdsOf_rev h1 h3) ⟨[v], [], rfl, h2, rfl⟩

theorem rev_intr_ok (hE : EnvOk P c) (hc : Core F S β O w) {lk : Nat → Option AObj} (hlk : ∀ n o, lk n = some o → O n = some o) {d : Nat} {f : FuncId} {T : TypeId} (hk : c.intr f = some (.rev T)) {vs : List AV} {args : Array Value}
    (hr : RelAVs (F.rp S β O w) vs args.toList) {av : AV} {u : Upd} (h : intrOp c I lk d (.rev T) vs two = some (av, u)) :
    Calls P f args w fun e w' => ∃ v S' β', e = .returned v ∧ Core F S' β' (over u O) w' ∧ (F.rp S β O w).le (F.rp S' β' (over u O) w') ∧ RelAV (F.rp S' β' (over u O) w') av v := by
  obtain ⟨_, hspec0, hspec⟩ := hE.intr _ _ hk
  unfold intrOp at h
  split at h
  · contradiction
  · contradiction
  · contradiction
  · contradiction
  · rename_i T' l heq
    cases heq
    obtain ⟨v1, r1, e1, h1, h2⟩ := hr
    simp only [RelAVs] at h2; subst h2
    have ha : args = #[v1] := by
      apply Array.toList_inj.1; rw [e1]
    subst ha
    split at h
    · rename_i e t
      cases hb : slOk c T with
      | false => rw [hb] at h; cases h
      | true =>
        rw [hb] at h
        simp only [cond_true, two, Option.some.injEq, Prod.mk.injEq] at h
        obtain ⟨rfl, rfl⟩ := h
        have hv1 : v1 = .slice none 0 0 := by
          have := h1.resolve_left (by simp)
          simpa [RelL] using this
        subst hv1
        refine (hspec0 w none 0).mono ?_
        rintro ex w' ⟨rfl, rfl⟩
        exact ⟨_, S, β, rfl, hc, le_refl _, ⟨_, rfl, rfl⟩⟩
    · rename_i n
      split at h
      · rename_i e t xs hl
        cases hb : (eltOk c T t && Nat.beq t.size 1) with
        | false => rw [hb] at h; cases h
        | true =>
          rw [hb] at h
          simp only [Bool.and_eq_true] at hb
          have h1s := Nat.eq_of_beq_eq_true hb.2
          simp only [cond_true, bindD, Option.bind_eq_some_iff, two, Option.some.injEq, Prod.mk.injEq] at h
          obtain ⟨_, hgr, rfl, rfl⟩ := h
          have hgl := grow_le hgr
          unfold mostLen at hgl
          have hO := hlk _ _ hl
          have hv1 := h1.resolve_left (by simp)
          unfold RelL at hv1
          rw [show (F.rp S β O w).O n = some (.row e t xs false) from hO] at hv1
          simp only [Fr.rp, List.cons.injEq, and_true] at hv1
          subst hv1
          have hov : over [(n, AObj.row e t (revL xs) false)] O = upd O n (some (.row e t (revL xs) false)) := by rw [over_cons, over_nil]
          rw [hov]
          rcases hc.obj n _ hO with ⟨g1, g2⟩ | ⟨b, o, arr, cs, rest, g1, g2, g3, g4, g5, g6, g7, g8⟩
          · subst g2
            have g1 : β n = (none, 0) := g1
            refine (hspec0 w _ _).mono ?_
            rintro ex w' ⟨rfl, rfl⟩
            have hsame : upd O n (some (.row e t (revL ([] : List t.V)) false)) = O := by
              funext m
              by_cases hm : m = n
              · subst hm; rw [upd_same, hO]; rfl
              · rw [upd_ne _ _ _ _ hm]
            rw [hsame]
            exact ⟨_, S, β, rfl, hc, le_refl _, ⟨_, rfl, rfl⟩⟩
          · have g1 : (β n).1 = some (b, o) := g1
            have g2 : w.heap[b]? = some (.cells arr e (0, 0)) := g2
            have hcl : cs.length = xs.length := by
              have := RdsOf_len (fun _ _ => Rd_len t) g5
              rw [h1s] at this; omega
            have harr : arr = (arr.toList.take o ++ (cs ++ rest)).toArray := by
              apply Array.toList_inj.1
              rw [← g4]; simp
            have hpre : (arr.toList.take o).length = o := by simp; omega
            have hsz : xs.length ≤ 9223372036854775807 := by omega
            have hone : ∀ v ∈ cs, v.oneCell' = true := RdsOf_one (fun _ _ => Rd_one t) g5
            have := hspec w b (β n).2 e (arr.toList.take o) cs rest (by rw [← harr]; exact g2) (by omega) hone
            rw [hpre, hcl] at this
            rw [g1]
            refine this.mono ?_
            rintro ex w' ⟨rfl, m, hmd, rfl⟩
            obtain ⟨c1, l1⟩ := hc.write hO rfl (o' := .row e t (revL xs) false) (.inr ⟨_, _, _, rfl, by simp [revL]⟩) rfl g1 (by intro e t xs hh; cases hh) (by intro e t xs hh; cases hh)
              (arr.toList.take o ++ (cs.reverse ++ rest)).toArray (by
                intro q le hqb hqw
                refine .inr ⟨b, o, (arr.toList.take o ++ (cs.reverse ++ rest)).toArray, cs.reverse, rest, by rw [hqb]; exact g1, ?_, ?_, ?_, ?_, ?_, ?_, ?_⟩
                · rw [hqw]; exact setRow_heap w b arr _ e (0, 0) g2
                · rw [hqb]; show (revL xs).length ≤ (β n).2; rw [show (revL xs).length = xs.length from List.length_reverse]; exact g3
                · simp [hpre]
                  try rw [List.drop_append_of_le_length (by omega)]
                · exact RdsOf_rev (fun c x hx => by rw [Rd_len t hx, h1s]) (RdsOf_mono (fun _ _ => Rd_mono le.S (fun b i v hs => le.cells b i v (.inl hs)) t) g5)
                · rw [hqb]
                  have : arr.size = (arr.toList.take o ++ (cs.reverse ++ rest)).toArray.size := by
                    conv => lhs; rw [harr]
                    simp
                  rw [← this]; exact g6
                · have : arr.size = (arr.toList.take o ++ (cs.reverse ++ rest)).toArray.size := by
                    conv => lhs; rw [harr]
                    simp
                  rw [← this]; exact g7
                · intro v hv
                  refine g8 v ?_
                  rw [harr]
                  simpa using hv)
            obtain ⟨c2, l2⟩ := c1.redrawn m hmd
            exact ⟨_, S, β, rfl, c2, le_trans_same l1 l2 (fun _ _ _ _ _ _ => rfl), ⟨_, rfl, rfl⟩⟩
      · cases h
    · cases h
  all_goals first | contradiction | cases h

theorem intrOp_ok (hE : EnvOk P c) (hI : Snd P c I) (hc : Core F S β O w) {lk : Nat → Option AObj} (hlk : ∀ n o, lk n = some o → O n = some o) {d : Nat} {f : FuncId} {k : Intr} (hk : c.intr f = some k) {vs : List AV} {args : Array Value}
    (hr : RelAVs (F.rp S β O w) vs args.toList) {av : AV} {u : Upd} (h : intrOp c I lk d k vs two = some (av, u)) (hnew : ∀ n o', (n, o') ∈ u → n / 8 = d → n % 8 < 5 → O n = none) :
    (callFunc f args).run P w = .ok (.enter f args) w ∧ Calls P f args w fun e w' => ∃ v S' β', e = .returned v ∧ Core F S' β' (over u O) w' ∧ (F.rp S β O w).le (F.rp S' β' (over u O) w') ∧ RelAV (F.rp S' β' (over u O) w') av v := by
  refine ⟨(hE.intr _ _ hk).1 args w, ?_⟩
  cases k with
  | bwrite T U X => exact bwrite_ok hE hc hlk hk hr h hnew
  | bbyte T U X e => exact bbyte_ok hE hc hlk hk hr h hnew
  | bstr T e => exact bstr_ok hE hc hlk hk hr h
  | grow T => exact grow_intr_ok hE hc hk hr h hnew
  | rev T => exact rev_intr_ok hE hc hlk hk hr h
  | sort T ag st => exact sort_intr_ok hE hI hc hlk hk hr h (.inl ⟨_, _, _, rfl⟩)
  | sortF U T j g => exact sort_intr_ok hE hI hc hlk hk hr h (.inr (.inl ⟨_, _, _, _, rfl⟩))
  | sortS U T i j g mi mj er => exact sort_intr_ok hE hI hc hlk hk hr h (.inr (.inr ⟨_, _, _, _, _, _, _, _, rfl⟩))
end
end Go.Proofs.R

/- Maps with plain keys and values. -/
namespace Go.Proofs.R
open Go

section
variable {P : Program} {c : Ctx}
variable {F : Fr} {S : CellSet} {β : Nat → Place} {O : Nat → Option AObj} {w : World} {a : Act} {σ : List (Nat × AV)} {o : Oper} {next : Act → World → Prop} {Q : Exit → Act → World → Prop}

/-- a type's description, where its values are plain -/
def PlainD : Ty → TypeDesc → Prop
  | .int k, d => d = .int k
  | .bool, d => d = .bool
  | .str, d => d = .string
  | _, _ => False

theorem plainD_of {P : Program} {c : Ctx} {T : TypeId} {te : TE} (h : TOk P c T te) {t : Ty} (ht : tyOfD te.d = some t) : ∃ d, P.underlying T = some d ∧ PlainD t d := by
  have hu := h.under
  unfold tyOfD at ht
  split at ht
  · rename_i k hk; cases ht; rw [hk] at hu; exact ⟨_, hu, rfl⟩
  · rename_i hk; cases ht; rw [hk] at hu; exact ⟨_, hu, rfl⟩
  · rename_i hk; cases ht; rw [hk] at hu; exact ⟨_, hu, rfl⟩
  · cases ht
theorem plain_agg {te : TE} {t : Ty} (ht : tyOfD te.d = some t) : aggOf te = false := by
  unfold tyOfD at ht
  unfold aggOf
  split at ht <;> first | (rename_i h; rw [h]) | cases ht
theorem plain_rd {S : CellSet} {w : World} {t : Ty} {d : TypeDesc} (h : PlainD t d) {x : t.V} {v : Value} (hr : Rd S w t [v] x) : plainV t x = some v := by
  cases t with
  | int k => unfold Rd at hr; simp only [List.cons.injEq, and_true] at hr; rw [hr]; rfl
  | bool => unfold Rd at hr; simp only [List.cons.injEq, and_true] at hr; rw [hr]; rfl
  | str => unfold Rd at hr; simp only [List.cons.injEq, and_true] at hr; rw [hr]; rfl
  | _ => exact h.elim
theorem plain_rd' {S : CellSet} {w : World} {t : Ty} {d : TypeDesc} (h : PlainD t d) {x : t.V} {v : Value} (hr : plainV t x = some v) : Rd S w t [v] x := by
  cases t with
  | int k => simp only [plainV, Option.some.injEq] at hr; subst hr; unfold Rd; rfl
  | bool => simp only [plainV, Option.some.injEq] at hr; subst hr; unfold Rd; rfl
  | str => simp only [plainV, Option.some.injEq] at hr; subst hr; unfold Rd; rfl
  | _ => exact h.elim
theorem plain_checkKey {t : Ty} {d : TypeDesc} (h : PlainD t d) {T : TypeId} (hu : P.underlying T = some d) (e : Bool) (n : Nat) (v : Value) (w : World) : (Instr.checkKey e (n + 1) T v).run P w = .ok () w := by
  unfold Instr.checkKey
  cases t with
  | int k => cases h; simp [run_underlying hu]
  | bool => cases h; simp [run_underlying hu]
  | str => cases h; simp [run_underlying hu]
  | _ => exact h.elim
theorem str_beq (x y : ByteArray) : (x == y) = decide (x = y) := by
  cases x with | mk x => cases y with | mk y =>
  show (x == y) = decide _
  by_cases h : x = y
  · subst h; simp
  · rw [beq_eq_false_iff_ne.2 h, decide_eq_false (fun q => h (by injection q))]
theorem plain_sameNow {t : Ty} {d : TypeDesc} (h : PlainD t d) {x y : t.V} {u v : Value} (hx : plainV t x = some u) (hy : plainV t y = some v) : Instr.sameNow d u v = some (keyEq t x y) := by
  cases t with
  | int k => cases h; cases hx; cases hy; simp only [Instr.sameNow, if_true]; rfl
  | bool => cases h; cases hx; cases hy; cases x <;> cases y <;> rfl
  | str => cases h; cases hx; cases hy; simp only [Instr.sameNow, keyEq]; rw [str_beq]
  | _ => exact h.elim
theorem plain_eq {t : Ty} {d : TypeDesc} (h : PlainD t d) {x y : t.V} {u v : Value} (hx : plainV t x = some u) (hy : plainV t y = some v) (he : keyEq t x y = true) : u = v := by
  cases t with
  | int k => cases hx; cases hy; simp only [keyEq, decide_eq_true_eq] at he; rw [he]
  | bool => cases hx; cases hy; simp only [keyEq, decide_eq_true_eq] at he; rw [he]
  | str => cases hx; cases hy; simp only [keyEq, decide_eq_true_eq] at he; rw [he]
  | _ => exact h.elim
theorem plain_sameBits {t : Ty} {d : TypeDesc} (h : PlainD t d) {x : t.V} {u : Value} (hx : plainV t x = some u) (n : Nat) : Instr.sameBits n u u = true := by
  cases t with
  | int k => cases hx; cases n <;> simp [Instr.sameBits]
  | bool => cases hx; cases n <;> simp [Instr.sameBits]
  | str => cases hx; cases n <;> simp [Instr.sameBits, str_beq]
  | _ => exact h.elim

/-- what the operations on maps need of the keys -/
structure KeyLaw (P : Program) (k : TypeId) (t : Ty) : Prop where
  check : ∀ (e : Bool) (x : t.V) (v : Value) (w : World), plainV t x = some v → (Instr.checkKey e 10000 k v).run P w = .ok () w
  bits : ∀ (x : t.V) (v : Value), plainV t x = some v → Instr.sameBits 10000 v v = true
  inj : ∀ (x y : t.V) (u v : Value), plainV t x = some u → plainV t y = some v → keyEq t x y = true → u = v
  find : ∀ (x : t.V) (kv : Value) (es : List MapEntry) (w : World), plainV t x = some kv → (∀ e ∈ es, ∃ y : t.V, plainV t y = some e.key) →
    ∃ r, (Instr.findKey k kv es).run P w = .ok r w ∧ ((r = none ∧ ∀ e ∈ es, ∀ y, plainV t y = some e.key → keyEq t x y = false) ∨
      ∃ j e, r = some (j, e.val) ∧ es[j]? = some e ∧ (∀ y, plainV t y = some e.key → keyEq t x y = true) ∧ ∀ i e', i < j → es[i]? = some e' → ∀ y, plainV t y = some e'.key → keyEq t x y = false)

theorem found_now {t : Ty} {d : TypeDesc} (h : PlainD t d) {x : t.V} {kv : Value} (hk : plainV t x = some kv) : ∀ (es : List MapEntry) (i : Nat), (∀ e ∈ es, ∃ y : t.V, plainV t y = some e.key) →
    ∃ r, Instr.findNow d kv es i = some r ∧ ((r = none ∧ ∀ e ∈ es, ∀ y, plainV t y = some e.key → keyEq t x y = false) ∨
      ∃ j e, r = some (i + j, e.val) ∧ es[j]? = some e ∧ (∀ y, plainV t y = some e.key → keyEq t x y = true) ∧ ∀ i e', i < j → es[i]? = some e' → ∀ y, plainV t y = some e'.key → keyEq t x y = false)
  | [], i, he => ⟨none, rfl, .inl ⟨rfl, by simp⟩⟩
  | e :: es, i, he => by
    obtain ⟨y, hy⟩ := he e (by simp)
    have hs := plain_sameNow h hk hy
    have hall : ∀ y', plainV t y' = some e.key → keyEq t x y' = keyEq t x y := by
      intro y' hy'
      have := plain_sameNow h hk hy'
      rw [hs] at this; exact (Option.some.inj this).symm
    cases hq : keyEq t x y with
    | true =>
      refine ⟨some (i, e.val), by simp only [Instr.findNow, hs, hq], .inr ⟨0, e, rfl, rfl, fun y' hy' => by rw [hall y' hy', hq], fun i e' hi => by omega⟩⟩
    | false =>
      obtain ⟨r, h1, h2⟩ := found_now h hk es (i + 1) fun e he' => he e (by simp [he'])
      refine ⟨r, by simp only [Instr.findNow, hs, hq, h1], ?_⟩
      rcases h2 with ⟨rfl, h2⟩ | ⟨j, e1, rfl, h3, h4, h5⟩
      · refine .inl ⟨rfl, fun e1 he1 y' hy' => ?_⟩
        rcases List.mem_cons.1 he1 with rfl | he1
        · rw [hall y' hy', hq]
        · exact h2 e1 he1 y' hy'
      · refine .inr ⟨j + 1, e1, by rw [Nat.add_assoc, Nat.add_comm 1 j], by simpa using h3, h4, fun i' e' hi' he1 y' hy' => ?_⟩
        cases i' with
        | zero => simp at he1; subst he1; rw [hall y' hy', hq]
        | succ i' => exact h5 i' e' (by omega) (by simpa using he1) y' hy'

theorem plain_law {t : Ty} {d : TypeDesc} (h : PlainD t d) {k : TypeId} (hu : P.underlying k = some d) : KeyLaw P k t where
  check := fun e x v w _ => plain_checkKey h hu e 9999 v w
  bits := fun x v hx => plain_sameBits h hx 10000
  inj := fun x y u v hx hy he => plain_eq h hx hy he
  find := fun x kv es w hx he => by
    obtain ⟨r, h1, h2⟩ := found_now h hx es 0 he
    refine ⟨r, by simp [Instr.findKey, run_underlying hu, h1], ?_⟩
    rcases h2 with h2 | ⟨j, e, rfl, h3⟩
    · exact .inl h2
    · exact .inr ⟨j, e, by rw [Nat.zero_add], h3⟩

/-! keys of several cells -/
theorem found_asking {k : TypeId} {t : Ty} (heq : ∀ (x y : t.V) (u v : Value) (w : World), plainV t x = some u → plainV t y = some v → (Op.equal k u v).run P w = .ok (keyEq t x y) w) {x : t.V} {kv : Value} (hk : plainV t x = some kv) (w : World) :
    ∀ (es : List MapEntry) (i : Nat), (∀ e ∈ es, ∃ y : t.V, plainV t y = some e.key) →
    ∃ r, (Instr.findAsking k kv es i).run P w = .ok r w ∧ ((r = none ∧ ∀ e ∈ es, ∀ y, plainV t y = some e.key → keyEq t x y = false) ∨
      ∃ j e, r = some (i + j, e.val) ∧ es[j]? = some e ∧ (∀ y, plainV t y = some e.key → keyEq t x y = true) ∧ ∀ i e', i < j → es[i]? = some e' → ∀ y, plainV t y = some e'.key → keyEq t x y = false)
  | [], i, he => ⟨none, by simp [Instr.findAsking], .inl ⟨rfl, by simp⟩⟩
  | e :: es, i, he => by
    obtain ⟨y, hy⟩ := he e (by simp)
    have hs := heq x y kv e.key w hk hy
    have hall : ∀ y', plainV t y' = some e.key → keyEq t x y' = keyEq t x y := by
      intro y' hy'
      have := heq x y' kv e.key w hk hy'
      rw [hs] at this; simpa using this.symm
    cases hq : keyEq t x y with
    | true =>
      rw [hq] at hs
      refine ⟨some (i, e.val), by simp [Instr.findAsking, hs], .inr ⟨0, e, rfl, rfl, fun y' hy' => by rw [hall y' hy', hq], fun i e' hi => by omega⟩⟩
    | false =>
      rw [hq] at hs
      obtain ⟨r, h1, h2⟩ := found_asking heq hk w es (i + 1) fun e he' => he e (by simp [he'])
      refine ⟨r, by simp [Instr.findAsking, hs, h1], ?_⟩
      rcases h2 with ⟨rfl, h2⟩ | ⟨j, e1, rfl, h3, h4, h5⟩
      · refine .inl ⟨rfl, fun e1 he1 y' hy' => ?_⟩
        rcases List.mem_cons.1 he1 with rfl | he1
        · rw [hall y' hy', hq]
        · exact h2 e1 he1 y' hy'
      · refine .inr ⟨j + 1, e1, by rw [Nat.add_assoc, Nat.add_comm 1 j], by simpa using h3, h4, fun i' e' hi' he1 y' hy' => ?_⟩
        cases i' with
        | zero => simp at he1; subst he1; rw [hall y' hy', hq]
        | succ i' => exact h5 i' e' (by omega) (by simpa using he1) y' hy'

def cellEq : Value → Value → Bool
  | .int _ a, .int _ b => decide (a = b)
  | .bool a, .bool b => decide (a = b)
  | .string a, .string b => decide (a = b)
  | _, _ => false
/-- a cell of a plain type -/
def Typed (t : Ty) (v : Value) : Prop := ∃ x : t.V, v = scV t x
def TypedL : List Ty → List Value → Prop
  | [], vs => vs = []
  | t :: ts, vs => ∃ v r, vs = v :: r ∧ Typed t v ∧ TypedL ts r
theorem scal_plainD {d : TypeDesc} {t : Ty} (h : PlainD t d) : scal t = true := by cases t <;> first | rfl | exact h.elim
theorem cell_part {T : TypeId} {t : Ty} {d : TypeDesc} (h : PlainD t d) (hu : P.underlying T = some d) {cs : Array Value} {i : Nat} {v : Value} (hv : cs[i]? = some v) (w : World) : (part T cs i).run P w = .ok v w := by
  cases t with
  | int k => cases h; simp [part, isAgg, run_underlying hu, hv]
  | bool => cases h; simp [part, isAgg, run_underlying hu, hv]
  | str => cases h; simp [part, isAgg, run_underlying hu, hv]
  | _ => exact h.elim
theorem cell_equal {T : TypeId} {t : Ty} {d : TypeDesc} (h : PlainD t d) (hu : P.underlying T = some d) {u v : Value} (hx : Typed t u) (hy : Typed t v) (n : Nat) (w : World) : (Op.equalIn (n + 1) T u v).run P w = .ok (cellEq u v) w := by
  obtain ⟨x, rfl⟩ := hx
  obtain ⟨y, rfl⟩ := hy
  cases t with
  | int k =>
    cases h; rw [show scV (.int k) x = .int k x from rfl, show scV (.int k) y = .int k y from rfl, run_equalIn_int w n T k k x y hu]; rfl
  | bool => cases h; rw [show scV .bool x = .bool x from rfl, show scV .bool y = .bool y from rfl, run_equalIn_bool' w n T x y hu]; cases x <;> cases y <;> rfl
  | str =>
    cases h; rw [show scV .str x = .string x from rfl, show scV .str y = .string y from rfl, run_equalIn_string w n T x y hu, ← beq_toListBytes, str_beq]; rfl
  | _ => exact h.elim
def cellsEq : List Value → List Value → Bool
  | [], [] => true
  | x :: xs, y :: ys => cellEq x y && cellsEq xs ys
  | _, _ => false
theorem cellsEq_append : ∀ {a c : List Value} (b d : List Value), a.length = c.length → cellsEq (a ++ b) (c ++ d) = (cellsEq a c && cellsEq b d)
  | [], [], b, d, h => by simp [cellsEq]
  | [], _ :: _, b, d, h => by simp at h
  | _ :: _, [], b, d, h => by simp at h
  | x :: a, y :: c, b, d, h => by
    simp only [List.cons_append, cellsEq]
    rw [cellsEq_append b d (by simpa using h), Bool.and_assoc]
theorem scal_eq {t : Ty} (h : scal t = true) (x y : t.V) : cellEq (scV t x) (scV t y) = keyEq t x y := by
  cases t <;> first | rfl | cases h
theorem scal_inj {t : Ty} (h : scal t = true) {x y : t.V} (he : keyEq t x y = true) : x = y := by
  cases t with
  | int k => simpa [keyEq] using he
  | bool => simpa [keyEq] using he
  | str => simpa [keyEq] using he
  | _ => cases h
theorem scal_bits {t : Ty} (h : scal t = true) (x : t.V) (n : Nat) : Instr.sameBits n (scV t x) (scV t x) = true := by
  cases t with
  | int k => cases n <;> simp [scV, Instr.sameBits]
  | bool => cases n <;> simp [scV, Instr.sameBits]
  | str => cases n <;> simp [scV, Instr.sameBits, str_beq]
  | _ => cases h
theorem typedL_append : ∀ {a : List Ty} {u : List Value} {b : List Ty} {v : List Value}, TypedL a u → TypedL b v → TypedL (a ++ b) (u ++ v)
  | [], u, b, v, h, h' => by simp only [TypedL] at h; subst h; exact h'
  | t :: a, u, b, v, ⟨x, r, e, h1, h2⟩, h' => by
    subst e
    exact ⟨x, r ++ v, rfl, h1, typedL_append h2 h'⟩
theorem flat_facts : ∀ (t : Ty), (∀ s ∈ flatT t, scal s = true) → (∀ x : t.V, TypedL (flatT t) (flatV t x)) ∧ (∀ x : t.V, (flatV t x).length = (flatT t).length) ∧ (∀ x y : t.V, cellsEq (flatV t x) (flatV t y) = keyEq t x y) ∧
    (∀ x y : t.V, keyEq t x y = true → x = y) ∧ (∀ x : t.V, ∀ v ∈ flatV t x, Instr.sameBits 9999 v v = true) ∧ (∀ (S : CellSet) (w : World) (cs : List Value) (x : t.V), Rd S w t cs x → cs = flatV t x)
  | .pair a b, h => by
    simp only [flatT, List.mem_append] at h
    obtain ⟨a1, a2, a3, a4, a5, a6⟩ := flat_facts a fun s hs => h s (.inl hs)
    obtain ⟨b1, b2, b3, b4, b5, b6⟩ := flat_facts b fun s hs => h s (.inr hs)
    refine ⟨fun x => typedL_append (a1 x.1) (b1 x.2), fun x => ?_, fun x y => ?_, fun x y he => ?_, fun x v hv => ?_, fun S w cs x hr => ?_⟩
    · simp only [flatV, flatT, List.length_append, a2, b2]
    · simp only [flatV, keyEq]
      rw [cellsEq_append _ _ (by rw [a2, a2]), a3, b3]
    · simp only [keyEq, Bool.and_eq_true] at he
      exact Prod.ext (a4 _ _ he.1) (b4 _ _ he.2)
    · simp only [flatV, List.mem_append] at hv
      exact hv.elim (a5 _ v) (b5 _ v)
    · obtain ⟨c1, d1, rfl, h1, h2⟩ := hr
      simp only [flatV]
      rw [a6 S w c1 x.1 h1, b6 S w d1 x.2 h2]
  | .int k, h => ⟨fun x => ⟨_, [], rfl, ⟨x, rfl⟩, rfl⟩, fun x => rfl, fun x y => by simp only [flatV, cellsEq, Bool.and_true]; exact scal_eq rfl x y, fun x y he => scal_inj rfl he, fun x v hv => by simp only [flatV, List.mem_singleton] at hv; subst hv; exact scal_bits rfl x _, fun S w cs x hr => hr⟩
  | .bool, h => ⟨fun x => ⟨_, [], rfl, ⟨x, rfl⟩, rfl⟩, fun x => rfl, fun x y => by simp only [flatV, cellsEq, Bool.and_true]; exact scal_eq rfl x y, fun x y he => scal_inj rfl he, fun x v hv => by simp only [flatV, List.mem_singleton] at hv; subst hv; exact scal_bits rfl x _, fun S w cs x hr => hr⟩
  | .str, h => ⟨fun x => ⟨_, [], rfl, ⟨x, rfl⟩, rfl⟩, fun x => rfl, fun x y => by simp only [flatV, cellsEq, Bool.and_true]; exact scal_eq rfl x y, fun x y he => scal_inj rfl he, fun x v hv => by simp only [flatV, List.mem_singleton] at hv; subst hv; exact scal_bits rfl x _, fun S w cs x hr => hr⟩
  | .unit, h => by have := h .unit (by simp [flatT]); cases this
  | .sl t, h => by have := h (.sl t) (by simp [flatT]); cases this
  | .arr n t, h => by have := h (.arr n t) (by simp [flatT]); cases this

/-- the fields of a key: the types of the cells from a place on -/
def FieldsAt (P : Program) : List Field → Nat → List Ty → Prop
  | [], _, ts => ts = []
  | f :: fl, i, ts => ∃ t r, ts = t :: r ∧ f.offset = i ∧ (f.name ≠ "_" ∧ ∃ d, P.underlying f.type = some d ∧ PlainD t d) ∧ FieldsAt P fl (i + 1) r
theorem fieldsK_spec (hE : EnvOk P c) : ∀ (fl : List Field) (i : Nat) (ts : List Ty), (∀ f ∈ fl, f.name ≠ "_") → fieldsK c (fl.map (·.type)) (fl.map (·.offset)) i ts = true → FieldsAt P fl i ts
  | [], i, [], _, _ => rfl
  | [], i, _ :: _, _, h => by simp [fieldsK] at h
  | f :: fl, i, [], _, h => by simp [fieldsK] at h
  | f :: fl, i, t :: ts, hn, h => by
    simp only [List.map_cons, fieldsK, Bool.and_eq_true] at h
    obtain ⟨⟨h1, h2⟩, h3⟩ := h
    refine ⟨t, ts, rfl, Nat.eq_of_beq_eq_true h1, ⟨hn f (by simp), ?_⟩, fieldsK_spec hE fl (i + 1) ts (fun g hg => hn g (by simp [hg])) h3⟩
    split at h2
    · rename_i fe hfe
      exact plainD_of (hE.te _ fe hfe) (of_decide_eq_true h2)
    · cases h2
theorem typed_get : ∀ {ts : List Ty} {pre us : List Value} {t : Ty}, TypedL (t :: ts) us → ∃ v r, us = v :: r ∧ Typed t v ∧ TypedL ts r ∧ (pre ++ us).toArray[pre.length]? = some v
  | ts, pre, us, t, ⟨v, r, e, h1, h2⟩ => by subst e; exact ⟨v, r, rfl, h1, h2, by simp⟩
theorem fields_equal (n : Nat) (w : World) : ∀ (fl : List Field) (ts : List Ty) (p q us vs : List Value), p.length = q.length → FieldsAt P fl p.length ts → TypedL ts us → TypedL ts vs →
    (Op.eqFields (n + 1) (p ++ us).toArray (q ++ vs).toArray fl).run P w = .ok (cellsEq us vs) w
  | [], ts, p, q, us, vs, hl, hf, hu, hv => by
    simp only [FieldsAt] at hf; subst hf
    simp only [TypedL] at hu hv; subst hu; subst hv
    simp [Op.eqFields, cellsEq]
  | f :: fl, ts, p, q, us, vs, hl, ⟨t, r, e, ho, ⟨hn, d, hd1, hd2⟩, hf⟩, hu, hv => by
    subst e
    obtain ⟨u, us', rfl, u1, u2, u3⟩ := typed_get (pre := p) hu
    obtain ⟨v, vs', rfl, v1, v2, v3⟩ := typed_get (pre := q) hv
    have ih := fields_equal n w fl r (p ++ [u]) (q ++ [v]) us' vs' (by simp [hl]) (by simpa using hf) u2 v2
    simp only [List.append_assoc, List.singleton_append] at ih
    have e1 := cell_part hd2 hd1 (i := f.offset) (by rw [ho]; exact u3) w
    have e2 := cell_part hd2 hd1 (i := f.offset) (by rw [ho, hl]; exact v3) w
    have e3 := cell_equal hd2 hd1 u1 v1 n w
    simp only [Op.eqFields, if_pos hn, Sem.run_bind, e1, e2, e3, Result.andThen_ok, Sem.run_ite, Sem.run_pure, ih, cellsEq]
    cases cellEq u v <;> simp
theorem fields_check (e : Bool) (n : Nat) (w : World) : ∀ (fl : List Field) (ts : List Ty) (p us : List Value), FieldsAt P fl p.length ts → TypedL ts us →
    (forIn (m := Sem) fl PUnit.unit fun f _ => do
      if f.name ≠ "_" then Instr.checkKey e (n + 1) f.type (← part f.type (p ++ us).toArray f.offset)
      pure (ForInStep.yield PUnit.unit)).run P w = .ok PUnit.unit w
  | [], ts, p, us, hf, hu => by simp
  | f :: fl, ts, p, us, ⟨t, r, e', ho, ⟨hn, d, hd1, hd2⟩, hf⟩, hu => by
    subst e'
    obtain ⟨u, us', rfl, u1, u2, u3⟩ := typed_get (pre := p) hu
    have ih := fields_check e n w fl r (p ++ [u]) us' (by simpa using hf) u2
    simp only [List.append_assoc, List.singleton_append] at ih
    have e1 := cell_part hd2 hd1 (i := f.offset) (by rw [ho]; exact u3) w
    have e2 := plain_checkKey hd2 hd1 e n u w
    simp only [List.forIn_cons, Sem.run_bind, hn, ne_eq, not_false_eq_true, if_true, Result.andThen_ok, e1, e2, Sem.run_pure]
    exact ih
theorem bits_all : ∀ (l : List Value), (∀ v ∈ l, Instr.sameBits 9999 v v = true) → ((l.zip l).all fun x => match x with | (x, y) => Instr.sameBits 9999 x y) = true
  | [], _ => rfl
  | v :: l, h => by simp only [List.zip_cons_cons, List.all_cons, h v (by simp), bits_all l fun u hu => h u (by simp [hu]), Bool.and_self]
theorem bits_agg {cs : Array Value} (h : ∀ v ∈ cs.toList, Instr.sameBits 9999 v v = true) : Instr.sameBits 10000 (.agg cs) (.agg cs) = true := by
  have := bits_all cs.toList h
  simp only [Instr.sameBits, beq_self_eq_true, Bool.true_and]
  exact this
theorem struct_law {k : TypeId} {fields : Array Field} (hu : P.underlying k = some (.struct fields)) (hst : P.stoodInHeld k = false) {a b : Ty} (hf : FieldsAt P fields.toList 0 (flatT (.pair a b))) (hsc : ∀ s ∈ flatT (.pair a b), scal s = true) : KeyLaw P k (.pair a b) := by
  obtain ⟨f1, f2, f3, f4, f5, f6⟩ := flat_facts (.pair a b) hsc
  have hfo : P.fieldsOf k = fields := by unfold Program.fieldsOf; rw [hu]
  have heq : ∀ (x y : (Ty.pair a b).V) (u v : Value) (w : World), plainV (.pair a b) x = some u → plainV (.pair a b) y = some v → (Op.equal k u v).run P w = .ok (keyEq (.pair a b) x y) w := by
    intro x y u v w hx hy
    simp only [plainV, Option.some.injEq] at hx hy
    subst hx; subst hy
    have := fields_equal (P := P) 9998 w fields.toList (flatT (.pair a b)) [] [] (flatV (.pair a b) x) (flatV (.pair a b) y) rfl hf (f1 x) (f1 y)
    rw [f3] at this
    show (Op.equalIn (9999 + 1) k _ _).run P w = _
    rw [run_equalIn_struct w 9999 k _ _ (by rw [hfo]; exact hu) hst, hfo]
    exact this
  have hwide : (match P.underlying k with | some (.array _ _) | some (.struct _) => true | _ => false) = true := by rw [hu]
  refine ⟨?_, ?_, ?_, ?_⟩
  · intro e x v w hx
    simp only [plainV, Option.some.injEq] at hx
    subst hx
    have := fields_check (P := P) e 9998 w fields.toList (flatT (.pair a b)) [] (flatV (.pair a b) x) hf (f1 x)
    simp only [List.nil_append, List.length_nil] at this
    show (Instr.checkKey e (9999 + 1) k _).run P w = _
    unfold Instr.checkKey
    simp only [Sem.run_bind, run_underlying hu, Result.andThen_ok]
    rw [← Array.forIn_toList]
    simp only [this, Result.andThen_ok, Sem.run_pure]
  · intro x v hx
    simp only [plainV, Option.some.injEq] at hx
    subst hx
    exact bits_agg (by simpa using f5 x)
  · intro x y u v hx hy he
    rw [f4 x y he] at hx; rw [hx] at hy; exact Option.some.inj hy
  · intro x kv es w hx he
    obtain ⟨r, h1, h2⟩ := found_asking heq hx w es 0 he
    refine ⟨r, by rw [run_findKey_eq w hwide]; exact h1, ?_⟩
    rcases h2 with h2 | ⟨j, e, rfl, h3⟩
    · exact .inl h2
    · exact .inr ⟨j, e, by rw [Nat.zero_add], h3⟩

/-! keys that are arrays -/
theorem typed_map {t : Ty} (h : scal t = true) : ∀ (xs : List t.V), ∀ v ∈ xs.map (scV t), Typed t v
  | [], v, hv => by simp at hv
  | x :: xs, v, hv => by
    rcases List.mem_cons.1 hv with rfl | hv
    · exact ⟨x, rfl⟩
    · exact typed_map h xs v hv
theorem list_eq {t : Ty} (h : scal t = true) : ∀ (xs ys : List t.V), cellsEq (xs.map (scV t)) (ys.map (scV t)) = listEq (keyEq t) xs ys
  | [], [] => rfl
  | [], _ :: _ => rfl
  | _ :: _, [] => rfl
  | x :: xs, y :: ys => by simp only [List.map_cons, cellsEq, listEq, scal_eq h, list_eq h xs ys]
theorem list_inj {t : Ty} (h : scal t = true) : ∀ (xs ys : List t.V), listEq (keyEq t) xs ys = true → xs = ys
  | [], [], _ => rfl
  | [], _ :: _, he => by cases he
  | _ :: _, [], he => by cases he
  | x :: xs, y :: ys, he => by
    simp only [listEq, Bool.and_eq_true] at he
    rw [scal_inj h he.1, list_inj h xs ys he.2]
theorem items_equal {T : TypeId} {t : Ty} {d : TypeDesc} (h : PlainD t d) (hu : P.underlying T = some d) (h1 : P.cellsOf T = 1) (n : Nat) (w : World) : ∀ (us vs p q : List Value), p.length = q.length → us.length = vs.length → (∀ v ∈ us, Typed t v) → (∀ v ∈ vs, Typed t v) →
    (Op.eqItems (n + 1) T (P.cellsOf T) (p ++ us).toArray (q ++ vs).toArray (List.range' p.length us.length)).run P w = .ok (cellsEq us vs) w
  | [], [], p, q, hl, hl', hx, hy => by simp [Op.eqItems, cellsEq]
  | [], _ :: _, _, _, _, hl', _, _ => by simp at hl'
  | _ :: _, [], _, _, _, hl', _, _ => by simp at hl'
  | u :: us, v :: vs, p, q, hl, hl', hx, hy => by
    have ih := items_equal h hu h1 n w us vs (p ++ [u]) (q ++ [v]) (by simp [hl]) (by simpa using hl') (fun z hz => hx z (by simp [hz])) (fun z hz => hy z (by simp [hz]))
    simp only [List.append_assoc, List.singleton_append, List.length_append, List.length_singleton] at ih
    have e1 := cell_part h hu (cs := (p ++ u :: us).toArray) (i := p.length * P.cellsOf T) (v := u) (by rw [h1]; simp) w
    have e2 := cell_part h hu (cs := (q ++ v :: vs).toArray) (i := p.length * P.cellsOf T) (v := v) (by rw [h1, hl]; simp) w
    have e3 := cell_equal h hu (hx u (by simp)) (hy v (by simp)) n w
    simp only [List.length_cons, List.range'_succ, Op.eqItems, Sem.run_bind, e1, e2, e3, Result.andThen_ok, Sem.run_ite, Sem.run_pure, ih, cellsEq]
    cases cellEq u v <;> simp
theorem items_check {T : TypeId} {t : Ty} {d : TypeDesc} (h : PlainD t d) (hu : P.underlying T = some d) (h1 : P.cellsOf T = 1) {i : TypeInfo} (hi : P.info? T = some i) (e : Bool) (n : Nat) (w : World) : ∀ (us p : List Value), 
    (forIn (m := Sem) (List.range' p.length us.length) PUnit.unit fun i _ => do
      Instr.checkKey e (n + 1) T (← part T (p ++ us).toArray (i * (← sizeOf T)))
      pure (ForInStep.yield PUnit.unit)).run P w = .ok PUnit.unit w
  | [], p => by simp
  | u :: us, p => by
    have ih := items_check h hu h1 hi e n w us (p ++ [u])
    simp only [List.append_assoc, List.singleton_append, List.length_append, List.length_singleton] at ih
    have e1 := cell_part h hu (cs := (p ++ u :: us).toArray) (i := p.length * P.cellsOf T) (v := u) (by rw [h1]; simp) w
    have e2 := plain_checkKey h hu e n u w
    simp only [List.length_cons, List.range'_succ, List.forIn_cons, Sem.run_bind, run_sizeOf w hi, Result.andThen_ok, e1, e2, Sem.run_pure]
    exact ih
theorem array_law {k e : TypeId} {n : Nat} {t : Ty} {d : TypeDesc} (hu : P.underlying k = some (.array n e)) (h : PlainD t d) (hd : P.underlying e = some d) {i : TypeInfo} (hi : P.info? e = some i) (h1 : P.cellsOf e = 1) : KeyLaw P k (.arr n t) := by
  have hsc := scal_plainD h
  have hpv : ∀ (x : List t.V) (u : Value), plainV (.arr n t) x = some u → x.length = n ∧ u = .agg (x.map (scV t)).toArray := by
    intro x u hx
    simp only [plainV] at hx
    split at hx
    · rename_i hl; simp only [Option.some.injEq] at hx; exact ⟨hl, hx.symm⟩
    · cases hx
  have heq : ∀ (x y : (Ty.arr n t).V) (u v : Value) (w : World), plainV (.arr n t) x = some u → plainV (.arr n t) y = some v → (Op.equal k u v).run P w = .ok (keyEq (.arr n t) x y) w := by
    intro x y u v w hx hy
    obtain ⟨l1, rfl⟩ := hpv x u hx
    obtain ⟨l2, rfl⟩ := hpv y v hy
    have := items_equal (P := P) h hd h1 9998 w (x.map (scV t)) (y.map (scV t)) [] [] rfl (by simp [l1, l2]) (typed_map hsc x) (typed_map hsc y)
    simp only [List.nil_append, List.length_nil, List.length_map] at this
    rw [l1] at this
    show (Op.equalIn (9999 + 1) k _ _).run P w = _
    rw [run_equalIn_array w 9999 _ _ hu hi, List.range_eq_range', this, list_eq hsc]
    rfl
  have hwide : (match P.underlying k with | some (.array _ _) | some (.struct _) => true | _ => false) = true := by rw [hu]
  refine ⟨?_, ?_, ?_, ?_⟩
  · intro e' x v w hx
    obtain ⟨l1, rfl⟩ := hpv x v hx
    have := items_check (P := P) h hd h1 hi e' 9998 w (x.map (scV t)) []
    simp only [List.nil_append, List.length_nil, List.length_map] at this
    rw [l1] at this
    show (Instr.checkKey e' (9999 + 1) k _).run P w = _
    unfold Instr.checkKey
    simp only [Sem.run_bind, run_underlying hu, Result.andThen_ok]
    simp only [Std.Legacy.Range.forIn_eq_forIn_range', Std.Legacy.Range.size, Nat.sub_zero, Nat.add_one_sub_one, Nat.div_one]
    simp only [this, Result.andThen_ok, Sem.run_pure]
  · intro x v hx
    obtain ⟨l1, rfl⟩ := hpv x v hx
    refine bits_agg fun v hv => ?_
    simp only [List.mem_map] at hv
    obtain ⟨y, _, rfl⟩ := hv
    exact scal_bits hsc y _
  · intro x y u v hx hy he
    rw [list_inj hsc x y he] at hx; rw [hx] at hy; exact Option.some.inj hy
  · intro x kv es w hx he
    obtain ⟨r, h1, h2⟩ := found_asking heq hx w es 0 he
    refine ⟨r, by rw [run_findKey_eq w hwide]; exact h1, ?_⟩
    rcases h2 with h2 | ⟨j, e, rfl, h3⟩
    · exact .inl h2
    · exact .inr ⟨j, e, by rw [Nat.zero_add], h3⟩

/-- entries in memory and told ones -/
abbrev EntR (t u : Ty) (es : List MapEntry) (m : List (t.V × u.V)) : Prop := es.map (fun x => (some x.key, some x.val)) = m.map fun x => (plainV t x.1, plainV u x.2)
theorem ent_keys {t u : Ty} : ∀ {es : List MapEntry} {m : List (t.V × u.V)}, EntR t u es m → ∀ e ∈ es, ∃ y : t.V, plainV t y = some e.key
  | [], _, _, e, he => by cases he
  | x :: es, [], h, _, _ => by simp [EntR] at h
  | x :: es, p :: m, h, e, he => by
    simp only [EntR, List.map_cons, List.cons.injEq, Prod.mk.injEq] at h
    rcases List.mem_cons.1 he with rfl | he
    · exact ⟨p.1, h.1.1.symm⟩
    · exact ent_keys (m := m) h.2 e he
theorem ent_none {t u : Ty} {key : t.V} {kv : Value} (hk : plainV t key = some kv) (z : u.V) : ∀ {es : List MapEntry} {m : List (t.V × u.V)}, EntR t u es m → (∀ e ∈ es, ∀ y, plainV t y = some e.key → keyEq t key y = false) →
    mget t z key m = (z, false) ∧ ∀ y vy ck, plainV u y = some vy → EntR t u (es ++ [{ key := kv, val := vy, born := ck }]) (mput t key y m)
  | [], [], _, _ => ⟨rfl, fun y vy ck hy => by simp [EntR, mput, hk, hy]⟩
  | [], p :: m, h, _ => by simp [EntR] at h
  | e :: es, [], h, _ => by simp [EntR] at h
  | e :: es, p :: m, h, hn => by
    simp only [EntR, List.map_cons, List.cons.injEq, Prod.mk.injEq] at h
    obtain ⟨⟨h1, h2⟩, h3⟩ := h
    have hq := hn e (by simp) p.1 h1.symm
    obtain ⟨i1, i2⟩ := ent_none hk z (es := es) (m := m) h3 fun e he => hn e (by simp [he])
    refine ⟨by simp only [mget, hq, cond_false]; exact i1, fun y vy ck hy => ?_⟩
    have := i2 y vy ck hy
    simp only [EntR, mput, hq, cond_false, List.cons_append, List.map_cons, h1, h2] at this ⊢
    rw [this]
theorem ent_some {t u : Ty} {key : t.V} {kv : Value} (hk : plainV t key = some kv) (z : u.V) : ∀ {es : List MapEntry} {m : List (t.V × u.V)} {j : Nat} {e : MapEntry}, EntR t u es m → es[j]? = some e → (∀ y, plainV t y = some e.key → keyEq t key y = true) →
    (∀ i e', i < j → es[i]? = some e' → ∀ y, plainV t y = some e'.key → keyEq t key y = false) → kv = e.key →
    (mget t z key m).2 = true ∧ plainV u (mget t z key m).1 = some e.val ∧ ∀ y vy, plainV u y = some vy → EntR t u (es.modify j fun e => { e with key := kv, val := vy }) (mput t key y m)
  | [], _, j, e, _, he, _, _, _ => by simp at he
  | x :: es, [], _, _, h, _, _, _, _ => by simp [EntR] at h
  | x :: es, p :: m, 0, e, h, he, ht, hn, hkv => by
    simp only [List.getElem?_cons_zero, Option.some.injEq] at he
    subst he
    simp only [EntR, List.map_cons, List.cons.injEq, Prod.mk.injEq] at h
    obtain ⟨⟨h1, h2⟩, h3⟩ := h
    have hq := ht p.1 h1.symm
    refine ⟨by simp only [mget, hq, cond_true], by simp only [mget, hq, cond_true]; exact h2.symm, fun y vy hy => ?_⟩
    simp only [EntR, mput, hq, cond_true, List.modify_zero_cons, List.map_cons, hy, h3]
    rw [← h1, hkv]
  | x :: es, p :: m, j + 1, e, h, he, ht, hn, hkv => by
    simp only [EntR, List.map_cons, List.cons.injEq, Prod.mk.injEq] at h
    obtain ⟨⟨h1, h2⟩, h3⟩ := h
    have hq := hn 0 x (by omega) rfl p.1 h1.symm
    obtain ⟨i1, i2, i3⟩ := ent_some hk z (es := es) (m := m) (j := j) (e := e) h3 (by simpa using he) ht (fun i e' hi he' => hn (i + 1) e' (by omega) (by simpa using he')) hkv
    refine ⟨by simp only [mget, hq, cond_false]; exact i1, by simp only [mget, hq, cond_false]; exact i2, fun y vy hy => ?_⟩
    have := i3 y vy hy
    simp only [EntR, mput, hq, cond_false, List.modify_succ_cons, List.map_cons, h1, h2] at this ⊢
    rw [this]
/-- the search for a key, told -/
theorem find_ok {k : TypeId} {t u : Ty} (hL : KeyLaw P k t) (z : u.V) {key : t.V} {kv : Value} (hk : plainV t key = some kv) {es : List MapEntry} {m : List (t.V × u.V)} (hm : EntR t u es m) (w : World) :
    (∃ j v e, (Instr.findKey k kv es).run P w = .ok (some (j, v)) w ∧ es[j]? = some e ∧ e.key = kv ∧ (mget t z key m).2 = true ∧ plainV u (mget t z key m).1 = some v ∧
      ∀ y vy, plainV u y = some vy → EntR t u (es.modify j fun e => { e with key := kv, val := vy }) (mput t key y m)) ∨
    ((Instr.findKey k kv es).run P w = .ok none w ∧ mget t z key m = (z, false) ∧ ∀ y vy ck, plainV u y = some vy → EntR t u (es ++ [{ key := kv, val := vy, born := ck }]) (mput t key y m)) := by
  have hks := ent_keys hm
  obtain ⟨r, h1, h2⟩ := hL.find key kv es w hk hks
  rcases h2 with ⟨rfl, h2⟩ | ⟨j, e, rfl, h3, h4, h5⟩
  · obtain ⟨i1, i2⟩ := ent_none hk z hm h2
    exact .inr ⟨h1, i1, i2⟩
  · obtain ⟨y, hy⟩ := hks e (List.mem_of_getElem? h3)
    have hkv := hL.inj key y kv e.key hk hy (h4 y hy)
    obtain ⟨i1, i2, i3⟩ := ent_some hk z hm h3 h4 h5 hkv
    exact .inl ⟨j, e.val, e, h1, h3, hkv.symm, i1, i2, i3⟩

theorem flat_key {t : Ty} (h : aggT t = true) {p : RP} {a : AV} {v : Value} {y : t.V} (hr : RelAV p a v) (hk : keyOfAV t a = some y) : ∃ cs : Array Value, v = .agg cs ∧ Rd p.S p.w t cs.toList y := by
  unfold keyOfAV at hk
  split at hk
  · rw [h] at hk; cases hk
  · rename_i ls
    rw [h] at hk
    simp only [cond_true, Option.bind_eq_some_iff] at hk
    obtain ⟨⟨x, r⟩, h1, h2⟩ := hk
    cases r with
    | cons _ _ => simp at h2
    | nil =>
      simp only [List.isEmpty_nil, cond_true, Option.some.injEq] at h2
      subst h2
      obtain ⟨cs, rfl, h3⟩ := hr
      obtain ⟨c1, d1, e, h4, h5⟩ := toTy_rel t h1 h3
      simp only [RelLs] at h5; subst h5
      rw [List.append_nil] at e
      exact ⟨cs, rfl, by rw [e]; exact h4⟩
  · cases hk
theorem plain_key {t : Ty} {d : TypeDesc} (hp : PlainD t d) {p : RP} {a : AV} {v : Value} {y : t.V} (hr : RelAV p a v) (hk : keyOfAV t a = some y) : plainV t y = some v := by
  have ha : aggT t = false := by cases t <;> first | rfl | exact hp.elim
  unfold keyOfAV at hk
  split at hk
  · rw [ha] at hk
    simp only [cond_false] at hk
    obtain ⟨rfl, rfl⟩ := castV_eq hk
    rcases hr with hr | hr
    · cases hr
    · unfold RelL at hr; exact plain_rd hp hr
  · rw [ha] at hk; cases hk
  · cases hk
theorem arr_rd {S : CellSet} {w : World} {t : Ty} (h : scal t = true) : ∀ (xs : List t.V) (cs : List Value), RdsOf (Rd S w t) cs xs → cs = xs.map (scV t)
  | [], cs, hr => hr
  | x :: xs, cs, ⟨c1, d1, e, h1, h2⟩ => by
    subst e
    rw [arr_rd h xs d1 h2]
    have : c1 = [scV t x] := by cases t <;> first | exact h1 | cases h
    rw [this]; rfl
theorem key_ok (hE : EnvOk P c) {k : TypeId} {ke : TE} (hk : lkp c.te k = some ke) {t : Ty} (h : keyTy c ke = some t) : KeyLaw P k t ∧ ∀ (p : RP) (a : AV) (v : Value) (y : t.V), RelAV p a v → keyOfAV t a = some y → plainV t y = some v := by
  have hT := hE.te k ke hk
  have hun := hT.under
  have plain : tyOfD ke.d = some t → KeyLaw P k t ∧ ∀ (p : RP) (a : AV) (v : Value) (y : t.V), RelAV p a v → keyOfAV t a = some y → plainV t y = some v := by
    intro h
    obtain ⟨d, hd1, hd2⟩ := plainD_of hT h
    exact ⟨plain_law hd2 hd1, fun p a v y hr hy => plain_key hd2 hr hy⟩
  unfold keyTy at h
  split at h
  · rename_i fs hd
    rw [hd] at hun
    simp only [Option.bind_eq_some_iff] at h
    obtain ⟨t', _, h⟩ := h
    split at h
    · rename_i a b hq
      cases hf : fieldsK c fs ke.offs 0 (flatT (.pair a b)) with
      | false => rw [hf] at h; cases h
      | true =>
        rw [hf] at h
        simp only [cond_true, Option.some.injEq] at h
        subst h
        obtain ⟨fields, hu1, hf1, ho, hfs, hst, _⟩ := hun
        rw [← hf1, ← ho] at hf
        have hfa := fieldsK_spec hE fields.toList 0 _ (fun f hf => (hfs f hf).choose_spec.2.2) hf
        have hsc : ∀ s ∈ flatT (.pair a b), scal s = true := by
          have : ∀ (fl : List Field) (i : Nat) (ts : List Ty), FieldsAt P fl i ts → ∀ s ∈ ts, scal s = true := by
            intro fl
            induction fl with
            | nil => intro i ts h s hs; simp only [FieldsAt] at h; subst h; cases hs
            | cons f fl ih =>
              rintro i ts ⟨t, r, rfl, _, ⟨_, d, _, hd2⟩, h⟩ s hs
              rcases List.mem_cons.1 hs with rfl | hs
              · exact scal_plainD hd2
              · exact ih (i + 1) r h s hs
          exact this _ _ _ hfa
        refine ⟨struct_law hu1 hst hfa hsc, fun p av v y hr hy => ?_⟩
        obtain ⟨cs, rfl, hrd⟩ := flat_key (t := .pair a b) rfl hr hy
        have := (flat_facts (.pair a b) hsc).2.2.2.2.2 _ _ _ _ hrd
        simp only [plainV, ← this]
    · cases h
  · rename_i n e hd
    rw [hd] at hun
    simp only [Option.bind_eq_some_iff, Option.map_eq_some_iff] at h
    obtain ⟨ee, he, t', ht', rfl⟩ := h
    have hTe := hE.te e ee he
    obtain ⟨d, hd1, hd2⟩ := plainD_of hTe ht'
    obtain ⟨i, zv, hi, hisz, _⟩ := hTe.info
    have h1 : P.cellsOf e = 1 := by
      have := hTe.one (plain_agg ht')
      unfold Program.cellsOf; rw [hi]; simp only [Option.map_some, Option.getD_some]; omega
    refine ⟨array_law hun hd2 hd1 hi h1, fun p av v y hr hy => ?_⟩
    obtain ⟨cs, rfl, hrd⟩ := flat_key (t := .arr n t') rfl hr hy
    obtain ⟨hl, hrd⟩ := hrd
    have := arr_rd (scal_plainD hd2) y cs.toList hrd
    simp only [plainV]
    rw [if_pos hl, ← this]
  · exact plain h

theorem mapOk_spec (hE : EnvOk P c) {T k e : TypeId} {t u : Ty} (h : mapOk c T k e t u = true) :
    P.underlying T = some (.map k e) ∧ (KeyLaw P k t ∧ ∀ (p : RP) (a : AV) (v : Value) (y : t.V), RelAV p a v → keyOfAV t a = some y → plainV t y = some v) ∧ (∃ ve d, lkp c.te e = some ve ∧ tyOfD ve.d = some u ∧ P.underlying e = some d ∧ PlainD u d) := by
  unfold mapOk at h
  split at h
  · rename_i te ke ve h1 h2 h3
    simp only [Bool.and_eq_true, decide_eq_true_eq] at h
    obtain ⟨⟨h4, h5⟩, h6⟩ := h
    split at h4
    · rename_i k' e' hd
      simp only [Bool.and_eq_true, Nat.beq_eq] at h4
      obtain ⟨rfl, rfl⟩ := h4
      have hu := (hE.te T te h1).under
      rw [hd] at hu
      obtain ⟨d', hd3, hd4⟩ := plainD_of (hE.te _ ve h3) h6
      exact ⟨hu, key_ok hE h2 h5, ⟨ve, d', h3, h6, hd3, hd4⟩⟩
    · cases h4
  · cases h

theorem map_val {p : RP} {n : Nat} {k e : TypeId} {t u : Ty} {m : List (t.V × u.V)} (hO : p.O n = some (.mp k e t u m)) {v : Value} (h : RelAV p (.one (.mp n)) v) : ∃ b, (p.β n).1 = some (b, 0) ∧ v = .map (some b) := by
  rcases h with h | h
  · cases h
  unfold RelL at h
  rw [hO] at h
  obtain ⟨b, hb, hv⟩ := h
  simp only [List.cons.injEq, and_true] at hv
  exact ⟨b, hb, hv⟩
theorem plain_val {p : RP} {t t' : Ty} {x : t'.V} {y : t.V} {v : Value} (h : RelAV p (.one (.v t' x)) v) (hc : castV t' t x = some y) {d : TypeDesc} (hp : PlainD t d) : plainV t y = some v := by
  obtain ⟨rfl, rfl⟩ := castV_eq hc
  rcases h with h | h
  · cases h
  · unfold RelL at h; exact plain_rd hp h

theorem zero_plain (hE : EnvOk P c) {e : TypeId} {ve : TE} (hl : lkp c.te e = some ve) {u : Ty} (ht : tyOfD ve.d = some u) {d : TypeDesc} (hp : PlainD u d) {z : u.V × List Lf} (hz : toTy u ve.z = some z) (w : World) :
    ∃ v, (zeroValue e).run P w = .ok v w ∧ plainV u z.1 = some v := by
  have hT := hE.te e ve hl
  obtain ⟨i, zv, hi, hisz, hib, hiz, hzr, hz1, hzs⟩ := hT.info
  have ha := plain_agg ht
  have hcells := cells_one (hT.zone ha i zv hi hiz)
  have hsz : u.size = 1 := by cases u <;> first | rfl | exact hp.elim
  have h1 := toTy_rel (p := ⟨fun _ _ => False, w, fun _ _ => False, fun _ => (none, 0), fun _ => none⟩) u (x := z.1) (r := z.2) (by rw [hz]) (hzr _)
  refine ⟨zv, by simp [zeroValue, typeInfo, hi, hiz, Sem.run_bind, Result.andThen_ok], ?_⟩
  rw [hcells] at h1
  obtain ⟨c1, d1, hcd, h2, h3⟩ := h1
  have : c1 = [zv] := by
    have hone : c1.length = 1 := by
      cases u <;> first | exact hp.elim | (unfold Rd at h2; rw [h2]; rfl)
    rcases c1 with _ | ⟨a, _ | ⟨b, r⟩⟩ <;> simp_all
  subst this
  exact plain_rd hp h2

theorem makeMap_ok (hE : EnvOk P c) (hc : Core F S β O w) {T k e : TypeId} {t u : Ty} (ho : o.op = .makeMap T none) {d : Nat} (hnew : O d = none)
    (hn : After F S β O (over [(d, .mp k e t u [])] O) w (.one (.mp d)) o a next) : o.wp P a w next Q := by
  obtain ⟨h1, h2⟩ := hc.new hnew (.mp k e t u []) (by intro e t xs hh; cases hh) (.map #[] 0) 0 (by
    intro q hq hb hw
    exact ⟨w.heap.size, #[], 0, by rw [hb], hw, rfl, rfl, by intro j e he; simp at he⟩)
  refine wp_value (v := .map (some w.heap.size)) (w' := { w with heap := w.heap.push (.map #[] 0) }) ?_ ?_
  · simp [execOp, ho, Instr.makeMap]
  · rw [over_cons, over_nil] at hn
    refine hn _ _ _ _ h1 h2 (.inr ?_)
    unfold RelL
    simp only [Fr.rp, upd_same]
    exact ⟨w.heap.size, rfl, rfl⟩

theorem lookup_ok (hE : EnvOk P c) (hc : Core F S β O w) (hs : Slots (F.rp S β O w) (lkp σ) a.tmps) {T : TypeId} {X Y : Operand} {ok : Bool} (ho : o.op = .lookup T X Y ok) {n : Nat} (hx : gv c σ X 0 = some (.one (.mp n)))
    {y : AV} (hy : gv c σ Y 0 = some y) {k e : TypeId} {t u : Ty} {m : List (t.V × u.V)} (hO : O n = some (.mp k e t u m)) (hm : mapOk c T k e t u = true) {key : t.V} (hkey : keyOfAV t y = some key)
    {ve : TE} (hve : lkp c.te e = some ve) {z : u.V × List Lf} (hz : toTy u ve.z = some z)
    (hn1 : ok = true → After F S β O (over [] O) w (.tup [(false, [.v u (mget t z.1 key m).1]), (false, [.v .bool (mget t z.1 key m).2])]) o a next)
    (hn2 : ok = false → After F S β O (over [] O) w (.one (.v u (mget t z.1 key m).1)) o a next) : o.wp P a w next Q := by
  obtain ⟨hT, ⟨hL, hav⟩, ⟨ve', d', hv1, hv2, hv3, hv4⟩⟩ := mapOk_spec hE hm
  rw [hve] at hv1; cases hv1
  obtain ⟨b, hb, hX⟩ := map_val (p := F.rp S β O w) hO (gv_rel hE hs hx)
  have hY := hav _ _ _ _ (gv_rel hE hs hy) hkey
  obtain ⟨b', es, clock, hb', hw, hent, hclk, hborn⟩ := hc.obj n _ hO
  rw [hb] at hb'; simp only [Option.some.injEq, Prod.mk.injEq, and_true] at hb'; subst hb'
  simp only [Fr.rp] at hb hw
  have hget : (getObj b).run P w = .ok (.map es clock) w := by simp [getObj, Sem.run, hw]
  have hck := hL.check es.isEmpty key (a.eval Y) w hY
  obtain ⟨zv, hzv, hzp⟩ := zero_plain hE hve hv2 hv4 hz w
  have key : ∃ v, (Instr.lookup T (a.eval X) (a.eval Y) ok).run P w = .ok (if ok then .tuple #[v, .bool (mget t z.1 key m).2] else v) w ∧ plainV u (mget t z.1 key m).1 = some v := by
    rcases find_ok hL z.1 hY hent w with ⟨j, v, e', q1, q2, q3, q4, q5, q6⟩ | ⟨q1, q2, q3⟩
    · refine ⟨v, ?_, q5⟩
      cases ok <;> simp [Instr.lookup, run_underlying hT, hX, hget, hck, q1, q4]
    · refine ⟨zv, ?_, by rw [q2]; exact hzp⟩
      cases ok <;> simp [Instr.lookup, run_underlying hT, hX, hget, hck, q1, q2, hzv]
  obtain ⟨v, h1, h2⟩ := key
  have hrd : ∀ p : RP, RelL p (.v u (mget t z.1 key m).1) [v] := fun p => by unfold RelL; exact plain_rd' hv4 h2
  cases ok with
  | true =>
    refine pure_ok hc (v := .tuple #[v, .bool (mget t z.1 key m).2]) (by simp [execOp, ho, h1]) ?_ (hn1 rfl)
    exact ⟨_, rfl, _, _, rfl, ⟨_, rfl, .inr (hrd _)⟩, _, _, rfl, ⟨_, rfl, .inr rfl⟩, rfl⟩
  | false =>
    refine pure_ok hc (v := v) (by simp [execOp, ho, h1]) ?_ (hn2 rfl)
    exact .inr (hrd _)

theorem mapUpd_ok (hE : EnvOk P c) (hc : Core F S β O w) (hs : Slots (F.rp S β O w) (lkp σ) a.tmps) {T : TypeId} {X Y V : Operand} (ho : o.op = .mapUpdate T X Y V ∨ o.op = .insert T X Y V) {n : Nat} (hx : gv c σ X 0 = some (.one (.mp n)))
    {y : AV} (hy : gv c σ Y 0 = some y) {u' : Ty} {v : u'.V} (hv : gv c σ V 0 = some (.one (.v u' v))) {k e : TypeId} {t u : Ty} {m : List (t.V × u.V)} (hO : O n = some (.mp k e t u m)) (hm : mapOk c T k e t u = true) {key : t.V} (hkey : keyOfAV t y = some key)
    {val : u.V} (hval : castV u' u v = some val) (hn : After F S β O (over [(n, .mp k e t u (mput t key val m))] O) w (.one .undef) o a next) : o.wp P a w next Q := by
  obtain ⟨hT, ⟨hL, hav⟩, ⟨ve', d', hv1, hv2, hv3, hv4⟩⟩ := mapOk_spec hE hm
  obtain ⟨b, hb, hX⟩ := map_val (p := F.rp S β O w) hO (gv_rel hE hs hx)
  have hY := hav _ _ _ _ (gv_rel hE hs hy) hkey
  have hV := plain_val (gv_rel hE hs hv) hval hv4
  obtain ⟨b', es, clock, hb', hw, hent, hclk, hborn⟩ := hc.obj n _ hO
  rw [hb] at hb'; simp only [Option.some.injEq, Prod.mk.injEq, and_true] at hb'; subst hb'
  simp only [Fr.rp] at hb hw
  have hget : (getObj b).run P w = .ok (.map es clock) w := by simp [getObj, Sem.run, hw]
  have hset : ∀ ob, (setObj b ob).run P w = .ok () { w with heap := w.heap.setIfInBounds b ob } := by intro ob; simp [setObj, Sem.run, hw]
  have hck := hL.check false key (a.eval Y) w hY
  have key : ∃ es' ck, (Instr.mapUpdate T (a.eval X) (a.eval Y) (a.eval V)).run P w = .ok () { w with heap := w.heap.setIfInBounds b (.map es' ck) } ∧ EntR t u es'.toList (mput t key val m) ∧ ck = es'.size ∧ (∀ (j : Nat) (e : MapEntry), es'[j]? = some e → e.born = j) := by
    rcases find_ok hL val hY hent w with ⟨j, v, e', q1, q2, q3, q4, q5, q6⟩ | ⟨q1, q2, q3⟩
    · refine ⟨es.modify j fun e => { e with key := a.eval Y, val := a.eval V }, clock, ?_, by rw [Array.toList_modify]; exact q6 val _ hV, by simpa using hclk, ?_⟩
      rotate_left
      · intro i e'' he
        rw [Array.getElem?_modify] at he
        split at he
        · simp only [Option.map_eq_some_iff] at he
          obtain ⟨e0, he0, rfl⟩ := he
          exact hborn i e0 he0
        · exact hborn i e'' he
      have hj : (((es[j]?).map (·.key)).getD (a.eval Y)) = a.eval Y := by
        have : es[j]? = some e' := by simpa using q2
        rw [this]; exact q3
      have hst : (Instr.keyThatStays (((es[j]?).map (·.key)).getD (a.eval Y)) (a.eval Y)).run P w = .ok (a.eval Y) w := by
        rw [hj]; simp [Instr.keyThatStays, hL.bits key _ hY]
      simp [Instr.mapUpdate, run_underlying hT, hX, hget, hck, q1, hst, hset]
    · refine ⟨es.push { key := a.eval Y, val := a.eval V, born := clock }, clock + 1, ?_, by rw [Array.toList_push]; exact q3 val _ clock hV, by simp [hclk], ?_⟩
      rotate_left
      · intro i e'' he
        rw [Array.getElem?_push] at he
        split at he
        · simp only [Option.some.injEq] at he; subst he; simp only; omega
        · exact hborn i e'' he
      simp [Instr.mapUpdate, run_underlying hT, hX, hget, hck, q1, hset]
  obtain ⟨es', ck, h1, h2, h3, h4⟩ := key
  obtain ⟨g1, g2⟩ := hc.writeObj hO rfl (o' := .mp k e t u (mput t key val m)) (.inr ⟨_, _, _, _, _, rfl⟩) rfl hb (by intro e t xs hh; cases hh) (by intro e t xs hh; cases hh) (.map es' ck) (by
    intro q _ hqb hqw
    refine ⟨b, es', ck, by rw [hqb]; exact hb, ?_, h2, h3, h4⟩
    rw [hqw]
    exact Array.getElem?_setIfInBounds_self_of_lt (Array.getElem?_eq_some_iff.1 hw).1)
  rw [over_cons, over_nil] at hn
  refine wp_skip' ?_ (hn _ _ _ _ g1 g2 (.inl rfl))
  rcases ho with ho | ho <;> simp [execOp, ho, h1]

theorem rd_scal {S : CellSet} {w : World} {t : Ty} (h : scal t = true) (x : t.V) : Rd S w t [scV t x] x := by
  cases t <;> first | rfl | cases h
theorem rds_scal {S : CellSet} {w : World} {t : Ty} (h : scal t = true) : ∀ xs : List t.V, RdsOf (Rd S w t) (xs.map (scV t)) xs
  | [] => rfl
  | x :: xs => ⟨[scV t x], xs.map (scV t), rfl, rd_scal h x, rds_scal h xs⟩
theorem flat_leaves {p : RP} : ∀ (t : Ty), (∀ s ∈ flatT t, scal s = true) → ∀ x : t.V, RelLs p (leaves t x) (flatV t x)
  | .pair a b, h, x => RelLs_append (flat_leaves a (fun s hs => h s (by simp [flatT, hs])) x.1) (flat_leaves b (fun s hs => h s (by simp [flatT, hs])) x.2)
  | .int k, _, x => ⟨[.int k x], [], rfl, rfl, rfl⟩
  | .bool, _, x => ⟨[.bool x], [], rfl, rfl, rfl⟩
  | .str, _, x => ⟨[.string x], [], rfl, rfl, rfl⟩
  | .unit, h, _ => by have := h .unit (by simp [flatT]); cases this
  | .sl t, h, _ => by have := h (.sl t) (by simp [flatT]); cases this
  | .arr n t, h, _ => by have := h (.arr n t) (by simp [flatT]); cases this

theorem mapRange_ok (hE : EnvOk P c) (hc : Core F S β O w) (hs : Slots (F.rp S β O w) (lkp σ) a.tmps) {T : TypeId} {X : Operand} (ho : o.op = .range T X) {n : Nat} (hx : gv c σ X 0 = some (.one (.mp n)))
    {k e : TypeId} {t u : Ty} {m : List (t.V × u.V)} (hO : O n = some (.mp k e t u m)) (hm : mapOk c T k e t u = true) {d : Nat} (hnew : O d = none)
    (hn : After F S β O (over [(d, .miter (.mp n) m.length [])] O) w (.one (.ref d 0)) o a next) : o.wp P a w next Q := by
  obtain ⟨hT, _⟩ := mapOk_spec hE hm
  obtain ⟨bm, hb, hX⟩ := map_val (p := F.rp S β O w) hO (gv_rel hE hs hx)
  obtain ⟨b', es, clock, hb', hw, hent, hclk, hborn⟩ := hc.obj n _ hO
  rw [hb] at hb'; simp only [Option.some.injEq, Prod.mk.injEq, and_true] at hb'; subst hb'
  simp only [Fr.rp] at hb hw
  have hlen : clock = m.length := by
    have := congrArg List.length hent
    simp at this; omega
  have hget : (getObj bm).run P w = .ok (.map es clock) w := by simp [getObj, Sem.run, hw]
  have hrel : RelL (F.rp S β O w) (.mp n) [.map (some bm)] := by
    unfold RelL
    rw [show (F.rp S β O w).O n = some (.mp k e t u m) from hO]
    exact ⟨bm, hb, rfl⟩
  obtain ⟨h1, h2⟩ := hc.new hnew (.miter (.mp n) m.length []) (by intro e t xs hh; cases hh) (.mapIter (some bm) clock #[] clock) 0 (by
    intro q hq hqb hqw
    refine ⟨w.heap.size, bm, by rw [hqb], ?_, RelL_le hq _ hrel⟩
    rw [hqw, hlen])
  refine wp_value (v := .pointer (some ⟨w.heap.size, 0, none⟩)) (w' := { w with heap := w.heap.push (.mapIter (some bm) clock #[] clock) }) ?_ ?_
  · simp [execOp, ho, Instr.range, run_underlying hT, hX, hget]
  · rw [over_cons, over_nil] at hn
    refine hn _ _ _ _ h1 h2 (.inr ?_)
    unfold RelL
    simp only [Fr.rp, upd_same]
    exact ⟨w.heap.size, rfl, rfl⟩

theorem plain_leaves {p : RP} {t : Ty} (h : plainK t = true) {x : t.V} {v : Value} (hx : plainV t x = some v) : RelVl p (aggT t, leaves t x) v := by
  cases t with
  | int k => simp only [plainV, Option.some.injEq] at hx; subst hx; exact ⟨_, rfl, .inr rfl⟩
  | bool => simp only [plainV, Option.some.injEq] at hx; subst hx; exact ⟨_, rfl, .inr rfl⟩
  | str => simp only [plainV, Option.some.injEq] at hx; subst hx; exact ⟨_, rfl, .inr rfl⟩
  | unit => cases hx
  | sl t => cases hx
  | arr n t =>
    simp only [plainV] at hx
    split at hx
    · rename_i hl
      simp only [Option.some.injEq] at hx; subst hx
      refine ⟨_, rfl, ?_⟩
      show RelLs p [.v (.arr n t) x] (List.map (scV t) x)
      refine ⟨List.map (scV t) x, [], by simp, ?_, rfl⟩
      show Rd p.S p.w (.arr n t) (List.map (scV t) x) x
      refine ⟨hl, ?_⟩
      exact rds_scal h x
    · cases hx
  | pair a b =>
    simp only [plainV, Option.some.injEq] at hx; subst hx
    refine ⟨_, rfl, ?_⟩
    show RelLs p (leaves (.pair a b) x) (flatV (.pair a b) x)
    exact flat_leaves (.pair a b) (by unfold plainK at h; exact List.all_eq_true.1 h) x

theorem scal_leaf {p : RP} {u : Ty} (hu : scal u = true) {x : u.V} {v : Value} (h : plainV u x = some v) : RelL p (.v u x) [v] := by
  unfold RelL
  cases u <;> first | (simp only [plainV, Option.some.injEq] at h; rw [← h]; rfl) | cases hu

theorem mapEntry_ok (hE : EnvOk P c) (hc : Core F S β O w) (hs : Slots (F.rp S β O w) (lkp σ) a.tmps) {X : Operand} (ho : o.op = .entry X) {n : Nat} (hx : gv c σ X 0 = some (.one (.ref n 0))) {m k : Nat} {seen : List Nat} (hO : O n = some (.miter (.mp m) k seen))
    {kT eT : TypeId} {t u : Ty} {l : List (t.V × u.V)} (hM : O m = some (.mp kT eT t u l)) (ht : plainK t = true) (hu : scal u = true) {e : t.V × u.V} (he : entryAt l k seen = some e)
    (hn : After F S β O (over [] O) w (.tup [(aggT t, leaves t e.1), (false, [.v u e.2])]) o a next) : o.wp P a w next Q := by
  obtain ⟨b, bm, h1, h2, h3⟩ := hc.obj n _ hO
  obtain ⟨bm', es, clock, h4, h5, hent, hclk, hborn⟩ := hc.obj m _ hM
  unfold RelL at h3
  rw [show (F.rp S β O w).O m = some (.mp kT eT t u l) from hM] at h3
  obtain ⟨bm2, h6, h7⟩ := h3
  simp only [List.cons.injEq, Value.map.injEq, Option.some.injEq, and_true] at h7
  subst h7
  rw [h4] at h6; simp only [Option.some.injEq, Prod.mk.injEq, and_true] at h6; subst h6
  simp only [Fr.rp] at h1 h2 h4 h5
  have hv := gv_rel hE hs hx
  rcases hv with hv | hv
  · cases hv
  unfold RelL at hv
  rw [show (F.rp S β O w).O n = some (.miter (.mp m) k seen) from hO] at hv
  obtain ⟨b', hb', hv⟩ := hv
  simp only [Fr.rp] at hb'
  rw [h1] at hb'; simp only [Option.some.injEq, Prod.mk.injEq, and_true] at hb'; subst hb'
  simp only [List.cons.injEq, and_true] at hv
  unfold entryAt at he
  split at he
  case isFalse => cases he
  rename_i hlen
  simp only [Option.bind_eq_some_iff] at he
  obtain ⟨j, hj, hlj⟩ := he
  have hel : es.size = l.length := by
    have := congrArg List.length hent
    simpa using this
  have hcl : clock = k := by omega
  subst hcl
  obtain ⟨ys, rfl⟩ : ∃ ys, seen = ys ++ [j] := ⟨seen.dropLast, by
    have hne : seen ≠ [] := by rintro rfl; simp at hj
    rw [List.getLast?_eq_some_getLast hne] at hj
    simp only [Option.some.injEq] at hj
    rw [← hj]; exact (List.dropLast_concat_getLast hne).symm⟩
  have hjl : j < es.size := by
    have := (List.getElem?_eq_some_iff.1 hlj).1
    omega
  have hje : es[j]? = some es[j] := Array.getElem?_eq_getElem hjl
  have hbj := hborn j _ hje
  have hnod : (es.toList.map (·.born)).Nodup := by
    have : es.toList.map (·.born) = List.range es.size := by
      apply List.ext_getElem?
      intro i
      by_cases hi : i < es.size
      · have := hborn i _ (Array.getElem?_eq_getElem hi)
        simp [hi, this]
      · simp [hi]
    rw [this]; exact List.nodup_range
  have hkv : some es[j].key = plainV t e.1 ∧ some es[j].val = plainV u e.2 := by
    have := congrArg (fun q => q[j]?) hent
    have hj2 : es.toList[j]? = some es[j] := by simp
    simp only [List.getElem?_map, hj2, hlj, Option.map_some, Option.some.injEq, Prod.mk.injEq] at this
    exact this
  have hrun := run_entry_at (P := P) w b bm' clock ys.toArray es clock es[j] (by rw [h2, hbj]; simp) h5 (by simp) hnod
  refine pure_ok hc (v := .tuple #[es[j].key, es[j].val]) (by simp [execOp, ho, hv, hrun]) ?_ hn
  exact ⟨_, rfl, _, _, rfl, plain_leaves ht hkv.1.symm, _, _, rfl, ⟨_, rfl, .inr (scal_leaf hu hkv.2.symm)⟩, rfl⟩

theorem mfind_none {t u : Ty} {key : t.V} : ∀ {es : List MapEntry} {m : List (t.V × u.V)}, EntR t u es m → (∀ e ∈ es, ∀ y, plainV t y = some e.key → keyEq t key y = false) → mfind t key m = m.length
  | [], [], _, _ => rfl
  | [], p :: m, h, _ => by simp [EntR] at h
  | e :: es, [], h, _ => by simp [EntR] at h
  | e :: es, p :: m, h, hn => by
    simp only [EntR, List.map_cons, List.cons.injEq, Prod.mk.injEq] at h
    obtain ⟨⟨h1, h2⟩, h3⟩ := h
    have hq := hn e (by simp) p.1 h1.symm
    simp only [mfind, hq, cond_false, List.length_cons]
    rw [mfind_none (m := m) h3 fun e he => hn e (by simp [he])]
theorem mfind_some {t u : Ty} {key : t.V} : ∀ {es : List MapEntry} {m : List (t.V × u.V)} {j : Nat} {e : MapEntry}, EntR t u es m → es[j]? = some e → (∀ y, plainV t y = some e.key → keyEq t key y = true) →
    (∀ i e', i < j → es[i]? = some e' → ∀ y, plainV t y = some e'.key → keyEq t key y = false) → mfind t key m = j
  | [], _, j, e, _, he, _, _ => by simp at he
  | x :: es, [], _, _, h, _, _, _ => by simp [EntR] at h
  | x :: es, p :: m, 0, e, h, he, ht, hn => by
    simp only [List.getElem?_cons_zero, Option.some.injEq] at he
    subst he
    simp only [EntR, List.map_cons, List.cons.injEq, Prod.mk.injEq] at h
    have hq := ht p.1 h.1.1.symm
    simp only [mfind, hq, cond_true]
  | x :: es, p :: m, j + 1, e, h, he, ht, hn => by
    simp only [EntR, List.map_cons, List.cons.injEq, Prod.mk.injEq] at h
    have hq := hn 0 x (by omega) rfl p.1 h.1.1.symm
    simp only [mfind, hq, cond_false]
    rw [mfind_some (m := m) (j := j) (e := e) h.2 (by simpa using he) ht (fun i e' hi he' => hn (i + 1) e' (by omega) (by simpa using he'))]

theorem find2_ok {k : TypeId} {t u : Ty} (hL : KeyLaw P k t) (z : u.V) {key : t.V} {kv : Value} (hk : plainV t key = some kv) {es : List MapEntry} {m : List (t.V × u.V)} (hm : EntR t u es m) (w : World) :
    (∃ j v e, (Instr.findKey k kv es).run P w = .ok (some (j, v)) w ∧ es[j]? = some e ∧ e.key = kv ∧ e.val = v ∧ mfind t key m = j ∧ plainV u (mget t z key m).1 = some v ∧
      ∀ y vy, plainV u y = some vy → EntR t u (es.modify j fun e => { e with key := kv, val := vy }) (mput t key y m)) ∨
    ((Instr.findKey k kv es).run P w = .ok none w ∧ mget t z key m = (z, false) ∧ mfind t key m = m.length ∧ ∀ y vy ck, plainV u y = some vy → EntR t u (es ++ [{ key := kv, val := vy, born := ck }]) (mput t key y m)) := by
  have hks := ent_keys hm
  obtain ⟨r, h1, h2⟩ := hL.find key kv es w hk hks
  rcases h2 with ⟨rfl, h2⟩ | ⟨j, e, rfl, h3, h4, h5⟩
  · obtain ⟨i1, i2⟩ := ent_none hk z hm h2
    exact .inr ⟨h1, i1, mfind_none hm h2, i2⟩
  · obtain ⟨y, hy⟩ := hks e (List.mem_of_getElem? h3)
    have hkv := hL.inj key y kv e.key hk hy (h4 y hy)
    obtain ⟨i1, i2, i3⟩ := ent_some hk z hm h3 h4 h5 hkv
    exact .inl ⟨j, e.val, e, h1, h3, hkv.symm, rfl, mfind_some hm h3 h4 h5, i2, i3⟩

theorem modify_congr' {α : Type} {xs : List α} {i : Nat} {f g : α → α} {x : α} (h : xs[i]? = some x) (hf : f x = g x) : xs.modify i f = xs.modify i g := by
  apply List.ext_getElem?
  intro j
  rw [List.getElem?_modify, List.getElem?_modify]
  by_cases hj : i = j
  · subst hj; simp [h, hf]
  · simp [hj]

theorem mapPlace_ok (hE : EnvOk P c) (hc : Core F S β O w) (hs : Slots (F.rp S β O w) (lkp σ) a.tmps) {T : TypeId} {X Y : Operand} (ho : o.op = .mapEntry T X Y) {n : Nat} (hx : gv c σ X 0 = some (.one (.mp n)))
    {y : AV} (hy : gv c σ Y 0 = some y) {k e : TypeId} {t u : Ty} {m : List (t.V × u.V)} (hO : O n = some (.mp k e t u m)) (hm : mapOk c T k e t u = true) {key : t.V} (hkey : keyOfAV t y = some key)
    {ve : TE} (hve : lkp c.te e = some ve) {z : u.V × List Lf} (hz : toTy u ve.z = some z)
    (hn : After F S β O (over [(n, .mp k e t u (mput t key (mget t z.1 key m).1 m))] O) w (.tup [(false, [.v u (mget t z.1 key m).1]), (false, [.v (.int .i64) (mfind t key m : Int)])]) o a next) : o.wp P a w next Q := by
  obtain ⟨hT, ⟨hL, hav⟩, ⟨ve', d', hv1, hv2, hv3, hv4⟩⟩ := mapOk_spec hE hm
  rw [hve] at hv1; cases hv1
  obtain ⟨b, hb, hX⟩ := map_val (p := F.rp S β O w) hO (gv_rel hE hs hx)
  have hY := hav _ _ _ _ (gv_rel hE hs hy) hkey
  obtain ⟨b', es, clock, hb', hw, hent, hclk, hborn⟩ := hc.obj n _ hO
  rw [hb] at hb'; simp only [Option.some.injEq, Prod.mk.injEq, and_true] at hb'; subst hb'
  simp only [Fr.rp] at hb hw
  have hget : (getObj b).run P w = .ok (.map es clock) w := by simp [getObj, Sem.run, hw]
  have hset : ∀ ob, (setObj b ob).run P w = .ok () { w with heap := w.heap.setIfInBounds b ob } := by intro ob; simp [setObj, Sem.run, hw]
  have hck := hL.check false key (a.eval Y) w hY
  obtain ⟨zv, hzv, hzp⟩ := zero_plain hE hve hv2 hv4 hz w
  have hmlen : es.size = m.length := by
    have := congrArg List.length hent
    simpa using this
  have key : ∃ es' ck v, (Instr.mapEntry T (a.eval X) (a.eval Y)).run P w = .ok (.tuple #[v, .int .i64 (mfind t key m : Int)]) { w with heap := w.heap.setIfInBounds b (.map es' ck) } ∧ plainV u (mget t z.1 key m).1 = some v ∧
      EntR t u es'.toList (mput t key (mget t z.1 key m).1 m) ∧ ck = es'.size ∧ (∀ (j : Nat) (e : MapEntry), es'[j]? = some e → e.born = j) := by
    rcases find2_ok hL z.1 hY hent w with ⟨j, v, e', q1, q2, q3, q4, q5, q6, q7⟩ | ⟨q1, q2, q3, q4⟩
    · have hje : es[j]? = some e' := by simpa using q2
      have hbj := hborn j e' hje
      refine ⟨es.modify j fun e => { e with key := a.eval Y }, clock, v, ?_, q6, ?_, by simpa using hclk, ?_⟩
      · have hj : (((es[j]?).map (·.key)).getD (a.eval Y)) = a.eval Y := by rw [hje]; exact q3
        have hst : (Instr.keyThatStays (((es[j]?).map (·.key)).getD (a.eval Y)) (a.eval Y)).run P w = .ok (a.eval Y) w := by
          rw [hj]; simp [Instr.keyThatStays, hL.bits key _ hY]
        have hbn : (((es[j]?).map (·.born)).getD 0) = j := by rw [hje]; exact hbj
        simp [Instr.mapEntry, run_underlying hT, hX, hget, hck, q1, hst, hset, goInt, q5]
        rw [hje]; simp [hbj]
      · rw [Array.toList_modify]
        have := q7 _ _ q6
        rw [← modify_congr' (f := fun e => { e with key := a.eval Y }) q2 (by rw [← q4])] at this
        exact this
      · intro i e'' he
        rw [Array.getElem?_modify] at he
        split at he
        · simp only [Option.map_eq_some_iff] at he
          obtain ⟨e0, he0, rfl⟩ := he
          exact hborn i e0 he0
        · exact hborn i e'' he
    · refine ⟨es.push { key := a.eval Y, val := zv, born := clock }, clock + 1, zv, ?_, by rw [q2]; exact hzp, ?_, by simp [hclk], ?_⟩
      · have hcm : (clock : Int) = (mfind t key m : Int) := by rw [q3, hclk, hmlen]
        simp [Instr.mapEntry, run_underlying hT, hX, hget, hck, q1, hset, hzv, goInt, hcm]
      · rw [Array.toList_push, q2]
        exact q4 _ _ clock hzp
      · intro i e'' he
        rw [Array.getElem?_push] at he
        split at he
        · simp only [Option.some.injEq] at he; subst he; simp only; omega
        · exact hborn i e'' he
  obtain ⟨es', ck, v, h1, h2, h3, h4, h5⟩ := key
  obtain ⟨g1, g2⟩ := hc.writeObj hO rfl (o' := .mp k e t u (mput t _ (mget t z.1 _ m).1 m)) (.inr ⟨_, _, _, _, _, rfl⟩) rfl hb (by intro e t xs hh; cases hh) (by intro e t xs hh; cases hh) (.map es' ck) (by
    intro q _ hqb hqw
    refine ⟨b, es', ck, by rw [hqb]; exact hb, ?_, h3, h4, h5⟩
    rw [hqw]
    exact Array.getElem?_setIfInBounds_self_of_lt (Array.getElem?_eq_some_iff.1 hw).1)
  rw [over_cons, over_nil] at hn
  refine wp_value (v := .tuple #[v, .int .i64 (mfind t _ m : Int)]) (by simp [execOp, ho, h1]; rfl) (hn _ _ _ _ g1 g2 ⟨_, rfl, ?_⟩)
  exact ⟨_, _, rfl, ⟨_, rfl, .inr (by unfold RelL; exact plain_rd' hv4 h2)⟩, _, _, rfl, ⟨_, rfl, .inr rfl⟩, rfl⟩

theorem mapStore_ok (hE : EnvOk P c) (hc : Core F S β O w) (hs : Slots (F.rp S β O w) (lkp σ) a.tmps) {T : TypeId} {X Y V : Operand} (ho : o.op = .entryStore T X Y V) {n : Nat} (hx : gv c σ X 0 = some (.one (.mp n)))
    {j : Int} (hy : gv c σ Y 0 = some (.one (.v (.int .i64) j))) {u' : Ty} {v : u'.V} (hv : gv c σ V 0 = some (.one (.v u' v))) {k e : TypeId} {t u : Ty} {m : List (t.V × u.V)} (hO : O n = some (.mp k e t u m)) (hm : mapOk c T k e t u = true)
    {val : u.V} (hval : castV u' u v = some val) {m' : List (t.V × u.V)} (hst : mstore m j val = some m') (hn : After F S β O (over [(n, .mp k e t u m')] O) w (.one .undef) o a next) : o.wp P a w next Q := by
  obtain ⟨hT, ⟨hL, hav⟩, ⟨ve', d', hv1, hv2, hv3, hv4⟩⟩ := mapOk_spec hE hm
  obtain ⟨b, hb, hX⟩ := map_val (p := F.rp S β O w) hO (gv_rel hE hs hx)
  have hY := rel_int (gv_rel hE hs hy)
  have hV := plain_val (gv_rel hE hs hv) hval hv4
  obtain ⟨b', es, clock, hb', hw, hent, hclk, hborn⟩ := hc.obj n _ hO
  rw [hb] at hb'; simp only [Option.some.injEq, Prod.mk.injEq, and_true] at hb'; subst hb'
  simp only [Fr.rp] at hb hw
  have hget : (getObj b).run P w = .ok (.map es clock) w := by simp [getObj, Sem.run, hw]
  have hset : ∀ ob, (setObj b ob).run P w = .ok () { w with heap := w.heap.setIfInBounds b ob } := by intro ob; simp [setObj, Sem.run, hw]
  unfold mstore at hst
  split at hst
  case isFalse => cases hst
  rename_i hj0
  simp only [Option.map_eq_some_iff] at hst
  obtain ⟨p, hp, rfl⟩ := hst
  obtain ⟨i, rfl⟩ : ∃ i : Nat, j = i := ⟨j.toNat, by omega⟩
  simp only [Int.toNat_natCast] at hp hn ⊢
  have hel : es.size = m.length := by
    have := congrArg List.length hent
    simpa using this
  have hil : i < es.size := by
    have := (List.getElem?_eq_some_iff.1 hp).1
    omega
  have hfi : es.findIdx? (fun e => (e.born : Int) == (i : Int)) = some i := by
    rw [Array.findIdx?_eq_some_iff_getElem]
    refine ⟨hil, ?_, ?_⟩
    · have := hborn i _ (Array.getElem?_eq_getElem hil)
      simp [this]
    · intro q hq
      have := hborn q _ (Array.getElem?_eq_getElem (by omega))
      simp [this]; omega
  have h1 : (Instr.entryStore T (a.eval X) (a.eval Y) (a.eval V)).run P w = .ok () { w with heap := w.heap.setIfInBounds b (.map (es.modify i fun e => { e with val := a.eval V }) clock) } := by
    simp [Instr.entryStore, hX, hY, hget, hset, asInt, asIntOf, hfi]
  have hent' : EntR t u (es.modify i fun e => { e with val := a.eval V }).toList (m.set i (p.1, val)) := by
    rw [Array.toList_modify]
    apply List.ext_getElem?
    intro q
    have hq := congrArg (fun l => l[q]?) hent
    simp only [List.getElem?_map, List.getElem?_modify, List.getElem?_set] at hq ⊢
    by_cases e1 : i = q
    · subst e1
      have : i < m.length := by omega
      rw [hp] at hq
      simp only [Option.map_some] at hq
      cases he : es.toList[i]? with
      | none => rw [he] at hq; simp at hq
      | some e0 =>
        rw [he] at hq
        simp only [Option.map_some, Option.some.injEq, Prod.mk.injEq] at hq
        simp [this, hq.1, hV]
    · simp [e1]; simpa using hq
  obtain ⟨g1, g2⟩ := hc.writeObj hO rfl (o' := .mp k e t u (m.set i (p.1, val))) (.inr ⟨_, _, _, _, _, rfl⟩) rfl hb (by intro e t xs hh; cases hh) (by intro e t xs hh; cases hh) (.map (es.modify i fun e => { e with val := a.eval V }) clock) (by
    intro q _ hqb hqw
    refine ⟨b, _, clock, by rw [hqb]; exact hb, ?_, hent', by simpa using hclk, ?_⟩
    · rw [hqw]
      exact Array.getElem?_setIfInBounds_self_of_lt (Array.getElem?_eq_some_iff.1 hw).1
    · intro q e'' he
      rw [Array.getElem?_modify] at he
      split at he
      · simp only [Option.map_eq_some_iff] at he
        obtain ⟨e0, he0, rfl⟩ := he
        exact hborn q e0 he0
      · exact hborn q e'' he)
  rw [over_cons, over_nil] at hn
  refine wp_skip' ?_ (hn _ _ _ _ g1 g2 (.inl rfl))
  simp [execOp, ho, h1]
end
end Go.Proofs.R

/- One operation: what the evaluator tells is so. -/
namespace Go.Proofs.R
open Go

section
variable {P : Program} {c : Ctx}
variable {F : Fr} {S : CellSet} {β : Nat → Place} {O : Nat → Option AObj} {w : World} {a : Act} {σ : List (Nat × AV)} {o : Oper} {next : Act → World → Prop} {Q : Exit → Act → World → Prop}

theorem ofList {α : Type} (a : Array α) (l : List α) (h : a.toList = l) : a = l.toArray := by
  cases a; simp at h; simp [h]

theorem calleeOf_rel {p : RP} (hs : Slots p (lkp σ) a.tmps) {x : Operand} {g : FuncId × List Lf} (h : calleeOf σ x = some g) : ∃ vs : Array Value, a.eval x = .func (.func g.1) #[] vs ∧ RelLs p g.2 vs.toList := by
  unfold calleeOf at h
  split at h
  · cases h; exact ⟨#[], rfl, rfl⟩
  · split at h
    · rename_i d f caps hd
      cases h
      rcases hs _ _ hd with h1 | ⟨vs, h1, h2⟩
      · cases h1
      · simp only [List.cons.injEq, and_true] at h1
        exact ⟨vs, h1, h2⟩
    · cases h
  · cases h

theorem opC_sound (hE : EnvOk P c) {I : Interp c} (hI : Snd P c I) (hc : Core F S β O w) (hs : Slots (F.rp S β O w) (lkp σ) a.tmps) {lk : Nat → Option AObj} {ns : List Nat} (hlk : ∀ n o, lk n = some o → O n = some o) (hns : ∀ n o, lk n = some o → n ∈ ns)
    {d : Nat} {av : AV} {u : Upd} (h : opC c I σ lk ns d o two = some (av, u)) (hnew : ∀ n o', (n, o') ∈ u → n / 8 = d → n % 8 < 5 → O n = none)
    (hn : After F S β O (over u O) w av o a next) : o.wp P a w next Q := by
  have hd8 : ∀ o', (d * 8, o') ∈ u → O (d * 8) = none := fun o' hm => hnew _ o' hm (by omega) (by omega)
  unfold opC at h
  split at h
  · -- move
    rename_i x hx
    simp only [Option.bind_eq_some_iff, two, Option.some.injEq, Prod.mk.injEq] at h
    obtain ⟨v, h1, rfl, rfl⟩ := h
    exact move_ok hE hc hs (.inl hx) h1 hn
  · rename_i x hx
    simp only [Option.bind_eq_some_iff, two, Option.some.injEq, Prod.mk.injEq] at h
    obtain ⟨v, h1, rfl, rfl⟩ := h
    exact move_ok hE hc hs (.inr hx) h1 hn
  · -- pick
    rename_i x y z ho
    split at h
    · rename_i g hg
      split at h
      · rename_i t p u' q hp hq
        simp only [Option.bind_eq_some_iff, two, Option.some.injEq, Prod.mk.injEq] at h
        obtain ⟨q', h1, rfl, rfl⟩ := h
        obtain ⟨e, h2⟩ := castV_eq h1
        subst e
        refine pick_ok hE hc hs ho hg ?_ hn
        cases g with
        | true => exact gv_rel hE hs hp
        | false => have := gv_rel hE hs hq; simp only at h2; subst h2; exact this
      · cases g with
        | true =>
          simp only [ifB, cond_true, Option.bind_eq_some_iff, two, Option.some.injEq, Prod.mk.injEq] at h
          obtain ⟨v, h1, rfl, rfl⟩ := h
          exact pick_ok hE hc hs ho hg (gv_rel hE hs h1) hn
        | false =>
          simp only [ifB, cond_false, Option.bind_eq_some_iff, two, Option.some.injEq, Prod.mk.injEq] at h
          obtain ⟨v, h1, rfl, rfl⟩ := h
          exact pick_ok hE hc hs ho hg (gv_rel hE hs h1) hn
    · cases h
  · -- alloc
    rename_i T ho
    simp only [Option.bind_eq_some_iff, two, Option.some.injEq, Prod.mk.injEq] at h
    obtain ⟨te, h1, rfl, rfl⟩ := h
    exact alloc_ok hE hc ho h1 (hd8 _ List.mem_cons_self) hn
  · -- box
    rename_i T x ho
    simp only [Option.bind_eq_some_iff, two, Option.some.injEq, Prod.mk.injEq] at h
    obtain ⟨v, h1, ls, h2, rfl, rfl⟩ := h
    exact box_ok hE hc hs ho h1 h2 (hd8 _ List.mem_cons_self) hn
  · -- build
    rename_i T ps ho
    simp only [Option.bind_eq_some_iff] at h
    obtain ⟨te, h1, h⟩ := h
    split at h
    · rename_i fs _ hd
      simp only [Option.bind_eq_some_iff, two, Option.some.injEq, Prod.mk.injEq] at h
      obtain ⟨as, h2, ls, h3, rfl, rfl⟩ := h
      exact build_ok hE hc hs ho h1 hd h2 h3 hn
    · rename_i _ m e hd
      split at h
      · rename_i m' t zs hz
        simp only [Option.bind_eq_some_iff] at h
        obtain ⟨ee, h2, h⟩ := h
        cases hb : (Nat.beq m m' && Nat.beq ee.sz 1 && scal t) with
        | false => rw [hb] at h; cases h
        | true =>
          rw [hb, cond_true] at h
          simp only [Bool.and_eq_true] at hb
          simp only [Option.bind_eq_some_iff, two, Option.some.injEq, Prod.mk.injEq] at h
          obtain ⟨as, h3, qs, h4, rfl, rfl⟩ := h
          obtain rfl := beq_sz hb.1.1
          exact buildArr_ok hE hc hs ho h1 hd hz h2 (beq_sz hb.1.2) hb.2 h3 h4 hn
      · cases h
    · cases h
  · -- buildSlice
    rename_i T n ps ho
    simp only [Option.bind_eq_some_iff] at h
    obtain ⟨te, h1, h⟩ := h
    split at h
    · rename_i e t hd _
      cases hb : (eltOk c T t && Nat.ble (n * t.size) 16777216) with
      | false => rw [hb] at h; cases h
      | true =>
        rw [hb] at h
        rw [Bool.and_eq_true] at hb
        simp only [cond_true, Option.bind_eq_some_iff] at h
        obtain ⟨ee, h2, z, h3, as, h4, qs, h5, h⟩ := h
        cases hb2 : nodupB (qs.map (·.1)) with
        | false => rw [hb2] at h; cases h
        | true =>
          rw [hb2] at h
          simp only [cond_true, two, Option.some.injEq, Prod.mk.injEq] at h
          obtain ⟨rfl, rfl⟩ := h
          exact buildSlice_ok hE hc hs ho h1 hd hb.1 hb.2 h2 h3 h4 hlk h5 hb2 (hd8 _ List.mem_cons_self) hn
    · cases h
  · -- load
    rename_i T x ho
    simp only [Option.bind_eq_some_iff] at h
    obtain ⟨te, h1, p, h2, l, h3, h⟩ := h
    exact load_ok hE hc hs ho h1 h2 h3 hlk h hn
  · -- store
    rename_i T x y ho
    simp only [Option.bind_eq_some_iff] at h
    obtain ⟨te, h1, p, h2, l, h3, v, h4, h⟩ := h
    rw [storeOp_nat] at h
    simp only [Option.bind_eq_some_iff, two, Option.some.injEq, Prod.mk.injEq] at h
    obtain ⟨u', h5, rfl, rfl⟩ := h
    exact store_ok hE hc hs ho h1 h2 h3 h4 hlk h5 hn
  · -- nilCheck
    rename_i x ho
    simp only [Option.bind_eq_some_iff] at h
    obtain ⟨v, h1, h⟩ := h
    have hr := gv_rel hE hs h1
    have hbox : ∀ n off, aliveB lk (.ref n off) = true → ∃ T ls, O n = some (.box T ls) := by
      intro n off ha
      simp only [aliveB] at ha
      split at ha
      · rename_i T ls hl; exact ⟨T, ls, hlk _ _ hl⟩
      · cases ha
    split at h
    · rename_i n off
      cases hb : aliveB lk (.ref n off) with
      | false => rw [hb] at h; cases h
      | true =>
        rw [hb] at h; simp only [cond_true, two, Option.some.injEq, Prod.mk.injEq] at h; obtain ⟨rfl, rfl⟩ := h
        obtain ⟨T, ls, hO⟩ := hbox n off hb
        refine nilCheck_ok hE hc hs ho h1 (by intro e; cases e) ?_ hn
        rcases hr with hr | hr
        · cases hr
        · obtain ⟨b, _, e⟩ := ref_val hr ⟨T, ls, hO⟩
          exact .inl ⟨b, off, e⟩
    · simp only [two, Option.some.injEq, Prod.mk.injEq] at h; obtain ⟨rfl, rfl⟩ := h
      refine nilCheck_ok hE hc hs ho h1 (by intro e; cases e) ?_ hn
      rcases hr with hr | hr
      · cases hr
      · obtain ⟨b, o', ds, e, _⟩ := hr
        simp only [List.cons.injEq, and_true] at e
        exact .inl ⟨b, _, e⟩
    · rename_i n i off
      cases hb : aliveB lk (.eref n i off) with
      | false => rw [hb] at h; cases h
      | true =>
        rw [hb] at h; simp only [cond_true, two, Option.some.injEq, Prod.mk.injEq] at h; obtain ⟨rfl, rfl⟩ := h
        refine nilCheck_ok hE hc hs ho h1 (by intro e; cases e) ?_ hn
        rcases hr with hr | hr
        · cases hr
        · simp only [aliveB] at hb
          split at hb
          · rename_i e0 t xs fz hl
            unfold RelL at hr
            rw [show (F.rp S β O w).O n = some (.row e0 t xs fz) from hlk _ _ hl] at hr
            obtain ⟨b, o', _, _, _, e⟩ := hr
            simp only [List.cons.injEq, and_true] at e
            exact .inl ⟨b, _, e⟩
          · cases hb
    · simp only [two, Option.some.injEq, Prod.mk.injEq] at h; obtain ⟨rfl, rfl⟩ := h
      refine nilCheck_ok hE hc hs ho h1 (by intro e; cases e) ?_ hn
      rcases hr with hr | hr
      · cases hr
      · obtain ⟨vs, e, _⟩ := hr
        simp only [List.cons.injEq, and_true] at e
        exact .inr ⟨_, vs, e⟩
    · cases h
  · -- binOp
    rename_i op T x y U ho
    simp only [Option.bind_eq_some_iff] at h
    obtain ⟨p, h1, q, h2, h⟩ := h
    rw [binL_nat] at h
    simp only [Option.bind_eq_some_iff, two, Option.some.injEq, Prod.mk.injEq] at h
    obtain ⟨l, h3, rfl, rfl⟩ := h
    exact bin_ok hE hc hs ho h1 h2 h3 hn
  · -- unOp
    rename_i op T x ho
    simp only [Option.bind_eq_some_iff] at h
    obtain ⟨p, h1, h⟩ := h
    rw [unL_nat] at h
    simp only [Option.bind_eq_some_iff, two, Option.some.injEq, Prod.mk.injEq] at h
    obtain ⟨l, h3, rfl, rfl⟩ := h
    exact un_ok hE hc hs ho h1 h3 hn
  · -- convert
    rename_i s t x ho
    simp only [Option.bind_eq_some_iff] at h
    obtain ⟨es, h1, et, h2, v, h3, h⟩ := h
    split at h
    · rename_i k0 k k1 n e1 e2
      simp only [two, Option.some.injEq, Prod.mk.injEq] at h; obtain ⟨rfl, rfl⟩ := h
      exact conv_ok hE hc hs ho h1 h2 h3 (.inl ⟨_, _, _, _, e1, e2, rfl, rfl⟩) hn
    · rename_i n e1 e2
      simp only [two, Option.some.injEq, Prod.mk.injEq] at h; obtain ⟨rfl, rfl⟩ := h
      exact conv_ok hE hc hs ho h1 h2 h3 (.inr ⟨_, e1, e2, rfl, rfl⟩) hn
    · cases h
  · -- makeFunc
    rename_i f first caps ho
    cases hb : first.isEmpty with
    | false => rw [hb] at h; cases h
    | true =>
      rw [hb] at h
      simp only [cond_true, Option.bind_eq_some_iff, two, Option.some.injEq, Prod.mk.injEq] at h
      obtain ⟨as, h1, ls, h2, rfl, rfl⟩ := h
      exact makeFunc_ok hE hc hs ho hb h1 h2 hn
  · -- makeSlice
    rename_i T x y ho
    simp only [Option.bind_eq_some_iff] at h
    obtain ⟨te, h1, h⟩ := h
    split at h
    · rename_i e t hd _
      cases hb : eltOk c T t with
      | false => rw [hb] at h; cases h
      | true =>
        rw [hb] at h
        simp only [cond_true, Option.bind_eq_some_iff, bindD, two, Option.some.injEq, Prod.mk.injEq] at h
        obtain ⟨ee, h2, z, h3, p, h4, n, h5, q, h6, m, h7, len, h8, rfl, rfl⟩ := h
        exact makeSlice_ok hE hc hs ho h1 hd hb h2 h3 h4 h6 h5 h7 h8 (hd8 _ List.mem_cons_self) hn
    · cases h
  · -- slice
    rename_i T x lo hi mx ho
    cases mx with
    | some m => simp at h
    | none =>
      simp only [Option.isNone_none, cond_true, Option.bind_eq_some_iff] at h
      obtain ⟨v, h1, l, h2, lv, h3, hv, h4, h⟩ := h
      cases hmv : (memB c.moveT T && (hv.isNone || memB c.moveT (T + 1000000))) with
      | false => rw [hmv] at h; exact slice_ok hE hc hs ho h1 h2 h3 h4 hlk h hn
      | true =>
        rw [hmv, cond_true] at h
        exact move_ok2 hE hc hs ho h1 h2 h3 h4 hlk (d := d) hd8 h hn
  · -- fieldAddr
    rename_i T x f ho
    simp only [Option.bind_eq_some_iff] at h
    obtain ⟨te, h1, v, h2, l, h3, off, h4, l', h5, h⟩ := h
    cases hb : aliveB lk l with
    | false => rw [hb] at h; cases h
    | true =>
      rw [hb] at h; simp only [cond_true] at h
      split at h
      · rename_i fs hd
        simp only [two, Option.some.injEq, Prod.mk.injEq] at h; obtain ⟨rfl, rfl⟩ := h
        exact fieldAddr_ok hE hc hs ho h1 hd h2 h3 h4 h5 hlk hb hn
      · cases h
  · -- field
    rename_i T x f ho
    simp only [Option.bind_eq_some_iff] at h
    obtain ⟨te, h1, h⟩ := h
    split at h
    · rename_i fs hd
      simp only [Option.bind_eq_some_iff] at h
      obtain ⟨ft, h2, fe, h3, off, h4, v, h5, h⟩ := h
      split at h
      · simp only [Option.bind_eq_some_iff, two, Option.some.injEq, Prod.mk.injEq] at h
        obtain ⟨q, h6, r, h7, rfl, rfl⟩ := h
        exact field_ok hE hc hs ho h1 hd h2 h3 h4 h5 h6 h7 hn
      · cases h
    · cases h
  · -- indexAddr
    rename_i T x i ho
    simp only [Option.bind_eq_some_iff] at h
    obtain ⟨v, h1, l, h2, b, h3, n, h4, h⟩ := h
    exact indexAddr_ok hE hc hs ho h1 h2 h3 h4 hlk h hn
  · -- index
    rename_i T x i ho
    simp only [Option.bind_eq_some_iff] at h
    obtain ⟨v, h1, b, h3, n, h4, h⟩ := h
    split at h
    · rename_i s
      cases hb : strOk c T with
      | false => rw [hb] at h; cases h
      | true =>
        rw [hb] at h
        simp only [cond_true, bindD, Option.bind_eq_some_iff, two, Option.some.injEq, Prod.mk.injEq] at h
        obtain ⟨y, h5, rfl, rfl⟩ := h
        exact index_ok hE hc hs ho hb h1 h3 h4 h5 hn
    · cases h
  · -- extract
    rename_i x i ho
    simp only [Option.bind_eq_some_iff] at h
    obtain ⟨v, h1, h⟩ := h
    split at h
    · simp only [Option.bind_eq_some_iff, two, Option.some.injEq, Prod.mk.injEq] at h
      obtain ⟨q, h2, r, h3, rfl, rfl⟩ := h
      exact extract_ok hE hc hs ho h1 h2 h3 hn
    · cases h
  · -- range
    rename_i T x ho
    cases hb : strOk c T with
    | false =>
      rw [hb] at h
      simp only [cond_false, Option.bind_eq_some_iff] at h
      obtain ⟨v, h1, h⟩ := h
      split at h
      · unfold mapRange at h
        split at h
        · rename_i n' k e t u m hl
          cases hm : mapOk c T k e t u with
          | false => rw [hm] at h; cases h
          | true =>
            rw [hm] at h
            simp only [cond_true, two, Option.some.injEq, Prod.mk.injEq] at h
            obtain ⟨rfl, rfl⟩ := h
            exact mapRange_ok hE hc hs ho h1 (hlk _ _ hl) hm (hd8 _ List.mem_cons_self) hn
        · cases h
      · cases h
    | true =>
      rw [hb] at h
      simp only [cond_true, Option.bind_eq_some_iff] at h
      obtain ⟨v, h1, h⟩ := h
      split at h
      · simp only [two, Option.some.injEq, Prod.mk.injEq] at h
        obtain ⟨rfl, rfl⟩ := h
        exact range_ok hE hc hs ho hb h1 (hd8 _ List.mem_cons_self) hn
      · cases h
  · -- next
    rename_i x ho
    simp only [Option.bind_eq_some_iff] at h
    obtain ⟨v, h1, h⟩ := h
    split at h
    · split at h
      · rename_i s pos hl
        unfold ifB at h
        cases hp : decide (pos < s.size) with
        | true =>
          rw [hp] at h; simp only [cond_true, two, Option.some.injEq, Prod.mk.injEq] at h; obtain ⟨rfl, rfl⟩ := h
          exact next_ok hE hc hs ho h1 (hlk _ _ hl) (fun _ => hn) (fun hq => (hq (of_decide_eq_true hp)).elim)
        | false =>
          rw [hp] at h; simp only [cond_false, two, Option.some.injEq, Prod.mk.injEq] at h; obtain ⟨rfl, rfl⟩ := h
          exact next_ok hE hc hs ho h1 (hlk _ _ hl) (fun hq => (of_decide_eq_false hp hq).elim) (fun _ => hn)
      · cases h
    · cases h
  · -- entry
    rename_i x ho
    simp only [Option.bind_eq_some_iff] at h
    obtain ⟨v, h1, h⟩ := h
    split at h
    · unfold mapEntry at h
      split at h
      · rename_i m k seen hl
        split at h
        · rename_i kT eT t u l hm
          cases hb : plainK t && scal u with
          | false => rw [hb] at h; cases h
          | true =>
            rw [hb] at h
            simp only [cond_true, bindD, Option.bind_eq_some_iff, two, Option.some.injEq, Prod.mk.injEq] at h
            obtain ⟨e, he, rfl, rfl⟩ := h
            simp only [Bool.and_eq_true] at hb
            exact mapEntry_ok hE hc hs ho h1 (hlk _ _ hl) (hlk _ _ hm) hb.1 hb.2 he hn
        · cases h
      · cases h
    · cases h
  · -- makeMap
    rename_i T r ho
    cases hr : r.isNone with
    | false => rw [hr] at h; cases h
    | true =>
      rw [hr] at h
      simp only [cond_true] at h
      have hr' : r = none := by simpa using hr
      subst hr'
      unfold makeMapOp at h
      simp only [Option.bind_eq_some_iff] at h
      obtain ⟨te, h1, h⟩ := h
      split at h
      · simp only [Option.bind_eq_some_iff] at h
        obtain ⟨ke, h2, ve, h3, h⟩ := h
        split at h
        · simp only [two, Option.some.injEq, Prod.mk.injEq] at h
          obtain ⟨rfl, rfl⟩ := h
          exact makeMap_ok hE hc ho (hd8 _ List.mem_cons_self) hn
        · cases h
      · cases h
  · -- lookup
    rename_i T x i ok ho
    simp only [Option.bind_eq_some_iff] at h
    obtain ⟨v, h1, y, h2, h⟩ := h
    unfold lookupOp at h
    split at h
    · split at h
      · rename_i k e t u m hl
        cases hm : mapOk c T k e t u with
        | false => rw [hm] at h; cases h
        | true =>
          rw [hm] at h
          simp only [cond_true, Option.bind_eq_some_iff] at h
          obtain ⟨key, h3, ve, h4, z, h5, h⟩ := h
          cases ok with
          | true =>
            simp only [cond_true, two, Option.some.injEq, Prod.mk.injEq] at h; obtain ⟨rfl, rfl⟩ := h
            exact lookup_ok hE hc hs ho h1 h2 (hlk _ _ hl) hm h3 h4 h5 (fun _ => hn) (fun hq => by cases hq)
          | false =>
            simp only [cond_false, two, Option.some.injEq, Prod.mk.injEq] at h; obtain ⟨rfl, rfl⟩ := h
            exact lookup_ok hE hc hs ho h1 h2 (hlk _ _ hl) hm h3 h4 h5 (fun hq => by cases hq) (fun _ => hn)
      · cases h
    · cases h
  · -- mapEntry
    rename_i T x i ho
    simp only [Option.bind_eq_some_iff] at h
    obtain ⟨v, h1, k', h2, h⟩ := h
    unfold mapPlaceOp at h
    split at h
    · split at h
      · rename_i k e t u m hl
        cases hm : mapOk c T k e t u with
        | false => rw [hm] at h; cases h
        | true =>
          rw [hm] at h
          simp only [cond_true, Option.bind_eq_some_iff, two, Option.some.injEq, Prod.mk.injEq] at h
          obtain ⟨key, h4, ve, h5, z, h6, rfl, rfl⟩ := h
          exact mapPlace_ok hE hc hs ho h1 h2 (hlk _ _ hl) hm h4 h5 h6 hn
      · cases h
    · cases h
  · -- entryStore
    rename_i T x i y ho
    simp only [Option.bind_eq_some_iff] at h
    obtain ⟨v, h1, k', h2, vv, h3, h⟩ := h
    unfold mapStoreOp at h
    split at h
    · split at h
      · rename_i k e t u m hl
        cases hm : mapOk c T k e t u with
        | false => rw [hm] at h; cases h
        | true =>
          rw [hm] at h
          simp only [cond_true, bindD, Option.bind_eq_some_iff, two, Option.some.injEq, Prod.mk.injEq] at h
          obtain ⟨val, h4, m', h5, rfl, rfl⟩ := h
          exact mapStore_ok hE hc hs ho h1 h2 h3 (hlk _ _ hl) hm h4 h5 hn
      · cases h
    · cases h
  · -- insert
    rename_i T x i y ho
    simp only [Option.bind_eq_some_iff] at h
    obtain ⟨v, h1, k', h2, vv, h3, h⟩ := h
    unfold mapUpdOp at h
    split at h
    · split at h
      · rename_i k e t u m hl
        cases hm : mapOk c T k e t u with
        | false => rw [hm] at h; cases h
        | true =>
          rw [hm] at h
          simp only [cond_true, Option.bind_eq_some_iff, two, Option.some.injEq, Prod.mk.injEq] at h
          obtain ⟨key, h4, val, h5, rfl, rfl⟩ := h
          exact mapUpd_ok hE hc hs (.inr ho) h1 h2 h3 (hlk _ _ hl) hm h4 h5 hn
      · cases h
    · cases h
  · -- mapUpdate
    rename_i T x i y ho
    simp only [Option.bind_eq_some_iff] at h
    obtain ⟨v, h1, k', h2, vv, h3, h⟩ := h
    unfold mapUpdOp at h
    split at h
    · split at h
      · rename_i k e t u m hl
        cases hm : mapOk c T k e t u with
        | false => rw [hm] at h; cases h
        | true =>
          rw [hm] at h
          simp only [cond_true, Option.bind_eq_some_iff, two, Option.some.injEq, Prod.mk.injEq] at h
          obtain ⟨key, h4, val, h5, rfl, rfl⟩ := h
          exact mapUpd_ok hE hc hs (.inl ho) h1 h2 h3 (hlk _ _ hl) hm h4 h5 hn
      · cases h
    · cases h
  · -- builtins
    rename_i b as ts ho
    simp only [Option.bind_eq_some_iff] at h
    obtain ⟨vs, h1, h⟩ := h
    have hr := gvs_rel hE hs h1
    have hargs : (as.map a.eval).toList = as.toList.map a.eval := by simp
    split at h
    · -- len
      rename_i l T hts
      simp only [Option.bind_eq_some_iff, two, Option.some.injEq, Prod.mk.injEq] at h
      obtain ⟨n, h2, rfl, rfl⟩ := h
      obtain ⟨v1, r1, e, h3, h4⟩ := hr
      simp only [RelAVs] at h4; subst h4
      have hvl : l ≠ .undef := by rintro rfl; simp [lenOp] at h2
      have he : as.map a.eval = #[v1] := ofList _ _ (hargs.trans e)
      have ht : ts = #[T] := ofList _ _ hts
      refine pure_ok hc (v := .int .i64 n) ?_ (of_int _ _ _) hn
      have := len_run (P := P) (F := F) (S := S) (β := β) (w := w) hE hc hlk h2 (h3.resolve_left hvl) o.type
      simp [execOp, ho, Go.resolve, invoke, builtin, he, ht, this]
    · -- append
      rename_i s x T U hts
      cases hb : (slOk c U || strOk c U) with
      | false => rw [hb] at h; cases h
      | true =>
        rw [hb] at h; simp only [cond_true] at h
        obtain ⟨v1, r1, e, h3, v2, r2, e2, h4, h5⟩ := hr
        subst e2
        simp only [RelAVs] at h5; subst h5
        have hsu : s ≠ .undef ∧ x ≠ .undef := by
          constructor
          · rintro rfl
            unfold appendOp at h
            simp only [Option.bind_eq_some_iff] at h
            obtain ⟨te, _, h⟩ := h
            split at h
            · simp only [Option.bind_eq_some_iff] at h
              obtain ⟨ys, _, h⟩ := h
              cases eltOk c T ys.1 <;> simp at h
            · cases h
          · rintro rfl
            unfold appendOp at h
            simp only [Option.bind_eq_some_iff] at h
            obtain ⟨te, _, h⟩ := h
            split at h
            · simp [rowsOf] at h
            · cases h
        have hd0 : O (d * 8) = none := by
          unfold appendOp at h
          simp only [Option.bind_eq_some_iff] at h
          obtain ⟨te, _, h⟩ := h
          split at h
          · simp only [Option.bind_eq_some_iff] at h
            obtain ⟨ys, _, h⟩ := h
            cases hel : eltOk c T ys.1 with
            | false => rw [hel] at h; cases h
            | true =>
              rw [hel] at h; simp only [cond_true] at h
              split at h
              · rename_i e1 t1
                cases hq : Nat.beq _ e1 with
                | false => rw [hq] at h; cases h
                | true =>
                  rw [hq] at h
                  simp only [cond_true, bindD, Option.bind_eq_some_iff, two, Option.some.injEq, Prod.mk.injEq] at h
                  obtain ⟨_, _, _, _, _, rfl⟩ := h
                  exact hd8 _ List.mem_cons_self
              · split at h
                · rename_i e1 t1 _ _ _
                  cases hq : Nat.beq _ e1 with
                  | false => rw [hq] at h; cases h
                  | true =>
                    rw [hq] at h
                    simp only [cond_true, bindD, Option.bind_eq_some_iff, two, Option.some.injEq, Prod.mk.injEq] at h
                    obtain ⟨_, _, _, _, _, rfl⟩ := h
                    exact hd8 _ (List.mem_cons_of_mem _ List.mem_cons_self)
                · cases h
              · cases h
          · cases h
        have he : as.map a.eval = #[v1, v2] := ofList _ _ (hargs.trans e)
        have ht : ts = #[T, U] := ofList _ _ hts
        obtain ⟨v, w', S', β', h6, h7, h8, h9⟩ := appendOp_run hE hc hlk hd0 hb (h3.resolve_left hsu.1) (h4.resolve_left hsu.2) h o.type
        refine wp_value (v := v) (w' := w') ?_ (hn S' β' w' v h7 h8 h9)
        simp [execOp, ho, Go.resolve, invoke, builtin, he, ht, h6]
    · -- min
      simp only [Option.bind_eq_some_iff, two, Option.some.injEq, Prod.mk.injEq] at h
      obtain ⟨l, h2, rfl, rfl⟩ := h
      obtain ⟨v, h3, h4⟩ := minMax_run (P := P) h2 hr ts o.type w
      refine pure_ok hc (v := v) ?_ h4 hn
      have he : (as.toList.map a.eval).toArray = as.map a.eval := (ofList _ _ hargs).symm
      rw [he] at h3
      simp only [if_true] at h3
      simp [execOp, ho, Go.resolve, invoke, builtin, h3]
    · simp only [Option.bind_eq_some_iff, two, Option.some.injEq, Prod.mk.injEq] at h
      obtain ⟨l, h2, rfl, rfl⟩ := h
      obtain ⟨v, h3, h4⟩ := minMax_run (P := P) h2 hr ts o.type w
      refine pure_ok hc (v := v) ?_ h4 hn
      have he : (as.toList.map a.eval).toArray = as.map a.eval := (ofList _ _ hargs).symm
      rw [he] at h3
      simp only [Bool.false_eq_true, if_false] at h3
      simp [execOp, ho, Go.resolve, invoke, builtin, h3]
    · cases h
  · -- a call
    rename_i x as ts ho
    simp only [Option.bind_eq_some_iff] at h
    obtain ⟨g, h1, vs, h2, h⟩ := h
    split at h
    · rename_i k hk
      cases hb : g.2.isEmpty with
      | false => rw [hb] at h; cases h
      | true =>
        rw [hb] at h; simp only [cond_true] at h
        have hg2 : g.2 = [] := List.isEmpty_iff.1 hb
        obtain ⟨cs, h3, h4⟩ := calleeOf_rel hs h1
        have hr : RelAVs (F.rp S β O w) vs (as.map a.eval ++ cs).toList := by
          have := RelAVs_append (gvs_rel hE hs h2) (caps_rel h4 (by rw [hg2]; rfl))
          rw [hg2] at this
          simpa using this
        obtain ⟨h5, h6⟩ := intrOp_ok hE hI hc hlk hk hr h hnew
        have : (execOp a.eval o).run P w = .ok (.enter g.1 (as.map a.eval ++ cs)) w := by
          simp [execOp, ho, Go.resolve, Deferred.ofValue, h3, invoke, h5]
        unfold Oper.wp
        rw [this, Oper.upon_enter]
        refine h6.mono ?_
        rintro e w' ⟨v, S', β', rfl, h7, h8, h9⟩
        exact hn S' β' w' v h7 h8 h9
    · rename_i hkn
      cases hb : (g.2.all fun l => Nat.beq l.size 1) with
      | false => rw [hb] at h; cases h
      | true =>
        rw [hb] at h; simp only [cond_true] at h
        obtain ⟨cs, h3, h4⟩ := calleeOf_rel hs h1
        have hr : RelAVs (F.rp S β O w) (vs ++ g.2.map AV.one) (as.map a.eval ++ cs).toList := by
          have := RelAVs_append (gvs_rel hE hs h2) (caps_rel h4 hb)
          simpa using this
        obtain ⟨h5, h6⟩ := callOp_ok hI hc hlk hns h hr hnew
        have : (execOp a.eval o).run P w = .ok (.enter g.1 (as.map a.eval ++ cs)) w := by
          simp [execOp, ho, Go.resolve, Deferred.ofValue, h3, invoke, h5]
        unfold Oper.wp
        rw [this, Oper.upon_enter]
        refine h6.mono ?_
        rintro e w' ⟨v, S', β', rfl, h7, h8, h9⟩
        exact hn S' β' w' v h7 h8 h9
  · cases h
end
end Go.Proofs.R

/- A region: its operations one by one, in the order of the list, and in every other order that is allowed. -/
namespace Go.Proofs.R
open Go

section
variable {P : Program} {c : Ctx} {I : Interp c}

/-- the rows of a row of rows, in memory -/
def HsOk (P : Nat → Option AObj) (hs : List Nat) (e' : TypeId) (t : Ty) (xss : List (List t.V)) (s : RSt) : Prop :=
  hs.length = xss.length ∧ hs.Nodup ∧ ∀ (i q : Nat) (xs : List t.V), hs[i]? = some q → xss[i]? = some xs → bigName ≤ q ∧ (s ≠ .hole (i : Int) → P q = some (.row e' t xs true))

/-- what is told of the objects, and what is in memory -/
structure View (O P : Nat → Option AObj) : Prop where
  small : ∀ n o, O n = some o → n < bigName
  plain : ∀ n, n < bigName → plainO (O n) = true → P n = O n
  rows : ∀ n e e' t xss s, O n = some (.rows e e' t xss s) → ∃ hs, P n = some (.lrow e hs) ∧ HsOk P hs e' t xss s
  lrow : ∀ n e hs, O n ≠ some (.lrow e hs)
  apart : ∀ n m e hs e2 hs2, P n = some (.lrow e hs) → P m = some (.lrow e2 hs2) → n ≠ m → ∀ q ∈ hs, q ∉ hs2
  bound : ∃ B, (∀ k, B ≤ k → P k = none) ∧ ∀ n e hs, P n = some (.lrow e hs) → ∀ q ∈ hs, q < B
  hid : ∀ n e hs, P n = some (.lrow e hs) → n < bigName ∧ ∀ q ∈ hs, bigName ≤ q

def AllFull (O : Nat → Option AObj) : Prop := ∀ n e e' t xss s, O n = some (.rows e e' t xss s) → s = .full

theorem plainN_not {o : AObj} (h : plainN o = true) : (∀ e e' t xss s, o ≠ .rows e e' t xss s) ∧ ∀ e hs, o ≠ .lrow e hs := by
  cases o with
  | rows e e' t xss s => cases h
  | lrow e hs => cases h
  | _ => exact ⟨(by intros; intro hh; cases hh), (by intros; intro hh; cases hh)⟩
theorem fltO_some {x : Option AObj} {o : AObj} (h : fltO x = some o) : x = some o ∧ plainO x = true := by
  cases x with
  | none => cases h
  | some y => cases y <;> first | (cases h; exact ⟨rfl, rfl⟩) | cases h
theorem View.at {O P : Nat → Option AObj} (h : View O P) {n : Nat} {o : AObj} (hn : fltO (O n) = some o) : P n = some o := by
  obtain ⟨h1, h2⟩ := fltO_some hn
  rw [h.plain n (h.small n o h1) h2, h1]
theorem View.none {O P : Nat → Option AObj} (h : View O P) {n : Nat} (hn : n < bigName) (h0 : O n = none) : P n = none := by
  rw [h.plain n hn (by rw [h0]; rfl), h0]

theorem over_eq (u : Upd) (O : Nat → Option AObj) (n : Nat) : R.over u O n = match lkp u n with | some o => some o | none => O n := rfl

/-- plain changes -/
theorem View.over {O P : Nat → Option AObj} (h : View O P) {u : Upd} (hu : ∀ n o, (n, o) ∈ u → plainO (O n) = true ∧ plainN o = true ∧ n < bigName) : View (R.over u O) (R.over u P) := by
  have key : ∀ k e hs, R.over u P k = some (.lrow e hs) → P k = some (.lrow e hs) := by
    intro k e hs hk
    rw [over_eq] at hk
    cases hl : lkp u k with
    | some x =>
      rw [hl] at hk
      simp only [Option.some.injEq] at hk
      exact ((plainN_not (hu k x (lkp_mem hl)).2.1).2 _ _ hk).elim
    | none => rw [hl] at hk; exact hk
  refine ⟨?_, ?_, ?_, ?_, ?_, ?_, fun n e hs hn => h.hid n e hs (key _ _ _ hn)⟩
  · intro n o ho
    rw [over_eq] at ho
    cases hl : lkp u n with
    | some x => exact (hu n x (lkp_mem hl)).2.2
    | none => rw [hl] at ho; exact h.small n o ho
  · intro n hn hp
    rw [over_eq, over_eq] at *
    cases hl : lkp u n with
    | some x => rfl
    | none => rw [hl] at hp; exact h.plain n hn hp
  · intro n e e' t xss s hr
    rw [over_eq] at hr
    cases hl : lkp u n with
    | some x =>
      rw [hl] at hr
      simp only [Option.some.injEq] at hr
      exact ((plainN_not (hu n x (lkp_mem hl)).2.1).1 _ _ _ _ _ hr).elim
    | none =>
      rw [hl] at hr
      obtain ⟨hs, h1, h2, h3, h4⟩ := h.rows n e e' t xss s hr
      refine ⟨hs, by rw [over_eq, hl]; exact h1, h2, h3, fun i q xs hq hx => ?_⟩
      obtain ⟨h5, h6⟩ := h4 i q xs hq hx
      refine ⟨h5, fun hne => ?_⟩
      rw [over_eq]
      cases hl2 : lkp u q with
      | some x => have := (hu q x (lkp_mem hl2)).2.2; omega
      | none => exact h6 hne
  · intro n e hs hh
    rw [over_eq] at hh
    cases hl : lkp u n with
    | some x =>
      rw [hl] at hh
      simp only [Option.some.injEq] at hh
      exact (plainN_not (hu n x (lkp_mem hl)).2.1).2 _ _ hh
    | none => rw [hl] at hh; exact h.lrow n e hs hh
  · intro n m e hs e2 hs2 h1 h2 hne
    exact h.apart n m e hs e2 hs2 (key _ _ _ h1) (key _ _ _ h2) hne
  · obtain ⟨B, hB, hB2⟩ := h.bound
    refine ⟨max B bigName, fun k hk => ?_, fun n e hs hn q hq => by have := hB2 n e hs (key _ _ _ hn) q hq; omega⟩
    rw [over_eq]
    cases hl : lkp u k with
    | some x => have := (hu k x (lkp_mem hl)).2.2; omega
    | none => exact hB k (by omega)

/-- memory is as the state tells -/
def Good (F : Fr) (nt : Nat) (st : St) (a : Act) (w : World) : Prop :=
  ∃ S β P, Core F S β P w ∧ Slots (F.rp S β P w) (lkp st.σ) a.tmps ∧ View (lkp st.O) P ∧ AllFull (lkp st.O) ∧ a.tmps.size = nt ∧ a.defers = []

def Eqv (s t : St) : Prop := lkp s.σ = lkp t.σ ∧ lkp s.O = lkp t.O

theorem Good.eqv {F : Fr} {nt : Nat} {s t : St} {a : Act} {w : World} (h : Eqv s t) (hg : Good F nt s a w) : Good F nt t a w := by
  obtain ⟨S, β, P, h1, h2, h3, h4, h5⟩ := hg
  exact ⟨S, β, P, h1, by rw [← h.1]; exact h2, by rw [← h.2]; exact h3, by rw [← h.2]; exact h4, h5⟩

theorem AllFull.over {O : Nat → Option AObj} (h : AllFull O) {u : Upd} (hu : ∀ n o, (n, o) ∈ u → plainN o = true) : AllFull (R.over u O) := by
  intro n e e' t xss s hr
  rw [over_eq] at hr
  cases hl : lkp u n with
  | some x =>
    rw [hl] at hr
    simp only [Option.some.injEq] at hr
    exact ((plainN_not (hu n x (lkp_mem hl))).1 _ _ _ _ _ hr).elim
  | none => rw [hl] at hr; exact h n e e' t xss s hr
theorem updOk_plain {O : List (Nat × AObj)} {ns : List Nat} {d : Nat} : ∀ {u : Upd}, updOk O ns d u = true → ∀ n o, (n, o) ∈ u → plainO (lkp O n) = true ∧ plainN o = true ∧ n < bigName
  | [], _, _, _, h => by cases h
  | (m, x) :: u, hu, n, o, h => by
    simp only [updOk, Bool.and_eq_true] at hu
    rcases List.mem_cons.1 h with h | h
    · cases h
      exact ⟨hu.1.2.1.1, hu.1.2.1.2, Nat.le_of_ble_eq_true hu.1.2.2⟩
    · exact updOk_plain hu.2 n o h

def putF (dst : Option Nat) (a : AV) (σ : Nat → Option AV) : Nat → Option AV :=
  match dst with
  | none => σ
  | some d => upd σ d (some a)

/-- is the operation wanted? -/
def WantA (ops : Array Oper) (o : Oper) (st : St) (b : Bool) : Prop :=
  match o.guard with
  | none => b = true
  | some (j, want) => ∃ dj, (ops[j]?).bind (·.dst) = some dj ∧ ((∃ g, lkp st.σ dj = some (.one (.v .bool g)) ∧ b = (g == want)) ∨ (lkp st.σ dj = some (.tup []) ∧ b = false))

structure Did (c : Ctx) (I : Interp c) (o : Oper) (st : St) (x : Log) (st' : St) : Prop where
  did : ∃ av u, opC c I st.σ (lookIn st.O (namesAt st.σ st.O o)) (namesAt st.σ st.O o) (o.dst.getD noSlot) o two = some (av, u) ∧
    updOk st.O (namesAt st.σ st.O o) (o.dst.getD noSlot) u = true ∧ lkp st'.σ = putF o.dst av (lkp st.σ) ∧ lkp st'.O = over u (lkp st.O) ∧
    x.ns = namesAt st.σ st.O o ∧ x.ws = u.map (·.1)

structure Skipped (o : Oper) (st : St) (x : Log) (st' : St) : Prop where
  σ : lkp st'.σ = putF o.dst (.tup []) (lkp st.σ)
  O : lkp st'.O = lkp st.O
  ns : x.ns = []
  ws : x.ws = []

def AStep (c : Ctx) (I : Interp c) (nt : Nat) (ops : Array Oper) (o : Oper) (st : St) (x : Log) (st' : St) : Prop :=
  (∀ d, o.dst = some d → d < nt) ∧ ((WantA ops o st true ∧ Did c I o st x st') ∨ (WantA ops o st false ∧ Skipped o st x st'))

/-! ### what an operation depends on -/
theorem gv_congr {σ σ' : List (Nat × AV)} {x : Operand} (h : ∀ t, x = .tmp t → lkp σ t = lkp σ' t) (T : TypeId) : gv c σ x T = gv c σ' x T := by
  cases x with
  | tmp t => exact h t rfl
  | const v => unfold gv; split <;> first | rfl | (rename_i hh; cases hh)
  | _ => rfl
theorem gvs_congr {σ σ' : List (Nat × AV)} : ∀ {xs : List Operand}, (∀ x ∈ xs, ∀ T, gv c σ x T = gv c σ' x T) → ∀ ts, gvs c σ xs ts = gvs c σ' xs ts
  | [], _, _ => rfl
  | x :: xs, h, ts => by
    simp only [gvs]
    rw [h x List.mem_cons_self, gvs_congr (fun y hy => h y (List.mem_cons_of_mem _ hy))]
theorem partsOf_congr {σ σ' : List (Nat × AV)} : ∀ {ty : Nat → TypeId} {ps : List (Nat × Operand)}, (∀ x ∈ ps.map (·.2), ∀ T, gv c σ x T = gv c σ' x T) → partsOf c σ ty ps = partsOf c σ' ty ps
  | ty, [], _ => rfl
  | ty, (i, x) :: ps, h => by
    simp only [partsOf]
    rw [h x (by simp), partsOf_congr (fun y hy => h y (by simp only [List.map_cons, List.mem_cons]; exact .inr hy))]
theorem optG_congr {σ σ' : List (Nat × AV)} {x : Option Operand} (h : ∀ y, x = some y → ∀ T, gv c σ y T = gv c σ' y T) : optG c σ x = optG c σ' x := by
  cases x with
  | none => rfl
  | some y => simp only [optG]; rw [h y rfl]
theorem calleeOf_congr {σ σ' : List (Nat × AV)} {x : Operand} (h : ∀ t, x = .tmp t → lkp σ t = lkp σ' t) : calleeOf σ x = calleeOf σ' x := by
  cases x with
  | tmp t => simp only [calleeOf]; rw [h t rfl]
  | _ => rfl

theorem opC_congr {ρ : Type} {σ σ' : List (Nat × AV)} {o : Oper} (h : ∀ t, .tmp t ∈ o.op.operands → lkp σ t = lkp σ' t) (lk : Nat → Option AObj) (ns : List Nat) (d : Nat) (K : AV → Upd → Option ρ) :
    opC c I σ lk ns d o K = opC c I σ' lk ns d o K := by
  have hg : ∀ x, x ∈ o.op.operands → ∀ T, gv c σ x T = gv c σ' x T := fun x hx T => gv_congr (fun t e => h t (e ▸ hx)) T
  obtain ⟨dst, op, type, pos, after, guard⟩ := o
  cases op <;> simp only [Op.operands] at hg <;> simp only [opC]
  case move x => rw [hg x (by simp)]
  case assign x => rw [hg x (by simp)]
  case pick x a b => rw [hg x (by simp), hg a (by simp), hg b (by simp)]
  case box T x => rw [hg x (by simp)]
  case build T ps =>
    have := fun ty => partsOf_congr (c := c) (σ := σ) (σ' := σ') (ty := ty) (ps := ps.toList) (fun x hx => hg x (by simpa using hx))
    simp only [this]
  case buildSlice T n ps =>
    have := fun ty => partsOf_congr (c := c) (σ := σ) (σ' := σ') (ty := ty) (ps := ps.toList) (fun x hx => hg x (by simpa using hx))
    simp only [this]
  case load T a => rw [hg a (by simp)]
  case store T a x => rw [hg a (by simp), hg x (by simp)]
  case nilCheck x => rw [hg x (by simp)]
  case binOp op T x y U => rw [hg x (by simp), hg y (by simp)]
  case unOp op T x => rw [hg x (by simp)]
  case convert s t x => rw [hg x (by simp)]
  case makeFunc fn first caps =>
    cases fn <;> simp only
    rw [gvs_congr (σ := σ) (σ' := σ') (fun x hx => hg x (by simp at hx ⊢; exact .inr hx))]
  case makeSlice T l m => rw [hg l (by simp), hg m (by simp)]
  case slice T x lo hi mx =>
    rw [hg x (by simp), optG_congr (σ := σ) (σ' := σ') (x := lo) (fun y e => hg y (by subst e; simp)), optG_congr (σ := σ) (σ' := σ') (x := hi) (fun y e => hg y (by subst e; simp))]
  case fieldAddr T x f => rw [hg x (by simp)]
  case field T x f => rw [hg x (by simp)]
  case indexAddr T x i => rw [hg x (by simp), hg i (by simp)]
  case index T x i => rw [hg x (by simp), hg i (by simp)]
  case extract x i => rw [hg x (by simp)]
  case range T x => rw [hg x (by simp)]
  case entry it => rw [hg it (by simp)]
  case next it b => cases b <;> simp only; rw [hg it (by simp)]
  case lookup T x i ok => rw [hg x (by simp), hg i (by simp)]
  case mapEntry T x i => rw [hg x (by simp), hg i (by simp)]
  case entryStore T x i y => rw [hg x (by simp), hg i (by simp), hg y (by simp)]
  case insert T x i y => rw [hg x (by simp), hg i (by simp), hg y (by simp)]
  case mapUpdate T x i y => rw [hg x (by simp), hg i (by simp), hg y (by simp)]
  case call cl =>
    obtain ⟨callee, as, ts⟩ := cl
    cases callee with
    | builtin b =>
      simp only
      rw [gvs_congr (σ := σ) (σ' := σ') (fun x hx => hg x (by simp only [Call.operands]; simp at hx ⊢; exact hx))]
    | value x =>
      simp only
      rw [calleeOf_congr (σ := σ) (σ' := σ') (fun t e => h t (by subst e; simp [Op.operands, Call.operands])), gvs_congr (σ := σ) (σ' := σ') (fun x hx => hg x (by simp only [Call.operands]; simp at hx ⊢; exact .inr hx))]
    | invoke r m => rfl

theorem memB_iff {l : List Nat} {n : Nat} : memB l n = true ↔ n ∈ l := by
  induction l with
  | nil => simp [memB]
  | cons m l ih =>
    simp only [memB, Bool.or_eq_true, ih, List.mem_cons]
    constructor
    · rintro (h | h)
      · exact .inl (Nat.eq_of_beq_eq_true h).symm
      · exact .inr h
    · rintro (rfl | h)
      · exact .inl (by simp)
      · exact .inr h
theorem disjB_iff {l m : List Nat} : disjB l m = true ↔ ∀ n ∈ l, n ∉ m := by
  induction l with
  | nil => simp [disjB]
  | cons k l ih =>
    simp only [disjB, Bool.and_eq_true, ih, List.mem_cons, forall_eq_or_imp, Bool.not_eq_true']
    rw [← Bool.not_eq_true, memB_iff]

theorem flatMap_congr' {α β : Type} : ∀ {l : List α} {f g : α → List β}, (∀ x ∈ l, f x = g x) → l.flatMap f = l.flatMap g
  | [], _, _, _ => rfl
  | x :: l, f, g, h => by
    rw [List.flatMap_cons, List.flatMap_cons, h x List.mem_cons_self, flatMap_congr' fun y hy => h y (List.mem_cons_of_mem _ hy)]

theorem reach_congr {O O' : List (Nat × AObj)} : ∀ (k : Nat) (ns : List Nat), (∀ n ∈ reach O k ns, lkp O' n = lkp O n) → reach O' k ns = reach O k ns
  | 0, _, _ => rfl
  | k + 1, ns, h => by
    simp only [reach] at h ⊢
    have e : (ns.flatMap fun n => optL (lkp O' n) AObj.names) = ns.flatMap fun n => optL (lkp O n) AObj.names := by
      apply flatMap_congr'; intro n hn; rw [h n (List.mem_append_left _ hn)]
    rw [e, reach_congr k _ (fun n hn => h n (List.mem_append_right _ hn))]
end
end Go.Proofs.R

/- Operations that do not look at each other may change places. -/
namespace Go.Proofs.R
open Go

section
variable {P : Program} {c : Ctx} {I : Interp c} {nt : Nat} {ops : Array Oper}

theorem looks_op {o : Oper} {t : Nat} (h : .tmp t ∈ o.op.operands) : t ∈ o.looksAt ops :=
  List.mem_append_left _ (List.mem_filterMap.2 ⟨.tmp t, by simpa using h, rfl⟩)
theorem looks_guard {o : Oper} {j : Nat} {want : Bool} {dj : Nat} (hg : o.guard = some (j, want)) (hd : (ops[j]?).bind (·.dst) = some dj) : dj ∈ o.looksAt ops := by
  refine List.mem_append_right _ ?_
  rw [hg]; simp only [hd, Option.toList_some, List.mem_singleton]

theorem boxRef_slots {σ σ' : List (Nat × AV)} {O : List (Nat × AObj)} {x : Operand} (h : ∀ t, x = .tmp t → lkp σ t = lkp σ' t) : boxRef σ O x = boxRef σ' O x := by
  cases x with
  | tmp t => simp only [boxRef]; rw [h t rfl]
  | _ => rfl
theorem boxOnly_slots {σ σ' : List (Nat × AV)} {O : List (Nat × AObj)} {o : Oper} (h : ∀ t, .tmp t ∈ o.op.operands → lkp σ t = lkp σ' t) : boxOnly σ O o = boxOnly σ' O o := by
  obtain ⟨dst, op, type, pos, after, guard⟩ := o
  cases op with
  | store T x y => exact boxRef_slots fun t e => h t (by simp [Op.operands, e])
  | load T x => exact boxRef_slots fun t e => h t (by simp [Op.operands, e])
  | fieldAddr T x f => exact boxRef_slots fun t e => h t (by simp [Op.operands, e])
  | _ => rfl
theorem namesAt_slots {σ σ' : List (Nat × AV)} {O : List (Nat × AObj)} {o : Oper} (h : ∀ t, .tmp t ∈ o.op.operands → lkp σ t = lkp σ' t) : namesAt σ O o = namesAt σ' O o := by
  unfold namesAt
  rw [boxOnly_slots h]
  split
  · rfl
  · congr 1
    refine flatMap_congr' ?_
    intro x hx
    cases x with
    | tmp t => simp only; rw [h t (by simpa using hx)]
    | _ => rfl
theorem mem_reach {O : List (Nat × AObj)} : ∀ (k : Nat) {ns : List Nat} {n : Nat}, n ∈ ns → n ∈ reach O k ns
  | 0, _, _, h => h
  | k + 1, _, _, h => List.mem_append_left _ h
theorem boxRef_names {σ : List (Nat × AV)} {O O' : List (Nat × AObj)} {x : Operand} (h : ∀ t n f, x = .tmp t → lkp σ t = some (.one (.ref n f)) → lkp O' n = lkp O n) : boxRef σ O' x = boxRef σ O x := by
  cases x with
  | tmp d =>
    unfold boxRef
    simp only
    split
    · rename_i hd
      rw [h d _ _ rfl hd]
    · rfl
  | _ => rfl
theorem boxOnly_names {σ : List (Nat × AV)} {O O' : List (Nat × AObj)} {o : Oper} (h : ∀ t n f, .tmp t ∈ o.op.operands → lkp σ t = some (.one (.ref n f)) → lkp O' n = lkp O n) : boxOnly σ O' o = boxOnly σ O o := by
  obtain ⟨dst, op, type, pos, after, guard⟩ := o
  cases op with
  | store T x y => exact boxRef_names fun t n f e => h t n f (by simp [Op.operands, e])
  | load T x => exact boxRef_names fun t n f e => h t n f (by simp [Op.operands, e])
  | fieldAddr T x g => exact boxRef_names fun t n f e => h t n f (by simp [Op.operands, e])
  | _ => rfl
theorem boxRef_some {σ : List (Nat × AV)} {O O' : List (Nat × AObj)} {x : Operand} {n : Nat} (h : boxRef σ O x = some n) (hO : lkp O' n = lkp O n) : boxRef σ O' x = some n := by
  cases x with
  | tmp d =>
    unfold boxRef at h ⊢
    simp only at h ⊢
    split at h
    · split at h
      · rename_i hm
        cases h
        rw [hO, hm]
      · cases h
    · cases h
  | _ => cases h
theorem boxOnly_some {σ : List (Nat × AV)} {O O' : List (Nat × AObj)} {o : Oper} {n : Nat} (h : boxOnly σ O o = some n) (hO : lkp O' n = lkp O n) : boxOnly σ O' o = some n := by
  obtain ⟨dst, op, type, pos, after, guard⟩ := o
  cases op with
  | store T x y => exact boxRef_some h hO
  | load T x => exact boxRef_some h hO
  | fieldAddr T x g => exact boxRef_some h hO
  | _ => cases h

theorem namesAt_congr {σ σ' : List (Nat × AV)} {O O' : List (Nat × AObj)} {o : Oper} (h : ∀ t, .tmp t ∈ o.op.operands → lkp σ t = lkp σ' t) (hO : ∀ n ∈ namesAt σ O o, lkp O' n = lkp O n) : namesAt σ' O' o = namesAt σ O o := by
  rw [namesAt_slots h] at hO ⊢
  unfold namesAt at hO ⊢
  cases hb : boxOnly σ' O o with
  | some n =>
    rw [hb] at hO
    rw [boxOnly_some hb (hO n (by simp))]
  | none =>
    rw [hb] at hO
    have : boxOnly σ' O' o = none := by
      rw [← hb]
      refine boxOnly_names fun t n f ht hd => hO n (mem_reach 4 ?_)
      refine List.mem_flatMap.2 ⟨.tmp t, by simpa using ht, ?_⟩
      simp [optL, hd, AV.names, Lf.names]
    rw [this]
    exact reach_congr _ _ hO

theorem lookIn_congr {O O' : List (Nat × AObj)} {ns : List Nat} (hO : ∀ n ∈ ns, lkp O' n = lkp O n) : lookIn O' ns = lookIn O ns := by
  funext n
  unfold lookIn
  cases hb : memB ns n with
  | false => rfl
  | true => simp only [cond_true]; exact congrArg fltO (hO n (memB_iff.1 hb))

theorem WantA.congr {o : Oper} {s t : St} {b : Bool} (h : ∀ d ∈ o.looksAt ops, lkp t.σ d = lkp s.σ d) (hw : WantA ops o s b) : WantA ops o t b := by
  unfold WantA at *
  split
  · rename_i hg; simp only [hg] at hw; exact hw
  · rename_i j want hg
    simp only [hg] at hw
    obtain ⟨dj, h1, h2⟩ := hw
    exact ⟨dj, h1, by rw [h dj (looks_guard hg h1)]; exact h2⟩

theorem updOk_congr {O O' : List (Nat × AObj)} {ns : List Nat} {d : Nat} (hns : ∀ n ∈ ns, lkp O' n = lkp O n) : ∀ {u : Upd}, (∀ n ∈ u.map (·.1), lkp O n = none → lkp O' n = none) → updOk O ns d u = true → updOk O' ns d u = true
  | [], _, _ => rfl
  | (n, x) :: u, h, hu => by
    simp only [updOk, Bool.and_eq_true] at hu ⊢
    have h1 := hu.1.1
    have h2 := hu.1.2
    have key : (bif Nat.beq (n / 8) d && Nat.blt (n % 8) 5 then (lkp O' n).isNone else memB ns n) = true ∧ plainO (lkp O' n) = true := by
      cases hb : (Nat.beq (n / 8) d && Nat.blt (n % 8) 5) with
      | false =>
        rw [hb] at h1
        have h1 : memB ns n = true := h1
        exact ⟨h1, by rw [hns n (memB_iff.1 h1)]; exact h2.1.1⟩
      | true =>
        rw [hb] at h1
        simp only [cond_true, Option.isNone_iff_eq_none] at h1 ⊢
        have h3 := h n List.mem_cons_self h1
        exact ⟨h3, by rw [h3]; rfl⟩
    exact ⟨⟨key.1, ⟨key.2, h2.1.2⟩, h2.2⟩, updOk_congr hns (fun m hm => h m (List.mem_cons_of_mem _ hm)) hu.2⟩

theorem over_none {u : Upd} {n : Nat} : n ∉ u.map (·.1) → ∀ O : Nat → Option AObj, over u O n = O n := by
  intro h O
  unfold over
  have : lkp u n = none := by
    cases hl : lkp u n with
    | none => rfl
    | some x => exact (h (List.mem_map.2 ⟨(n, x), lkp_mem hl, rfl⟩)).elim
  rw [this]

theorem putF_ne {d : Option Nat} {v : AV} {σ : Nat → Option AV} {t : Nat} (h : d ≠ some t) : putF d v σ t = σ t := by
  cases d with
  | none => rfl
  | some e => exact upd_ne _ _ _ _ (fun e' => h (e' ▸ rfl))

theorem putF_comm {d e : Option Nat} {u v : AV} {σ : Nat → Option AV} (h : ∀ x, d = some x → e ≠ some x) : putF d u (putF e v σ) = putF e v (putF d u σ) := by
  cases d with
  | none => rfl
  | some d =>
    cases e with
    | none => rfl
    | some e =>
      have hne : e ≠ d := fun x => h d rfl (by rw [x])
      funext t
      show upd (upd σ e (some v)) d (some u) t = upd (upd σ d (some u)) e (some v) t
      unfold upd
      by_cases h1 : t = d
      · subst h1; simp [Ne.symm hne]
      · by_cases h2 : t = e <;> simp [h1, h2, hne]

theorem over_comm {u v : Upd} {O : Nat → Option AObj} (h : ∀ n ∈ u.map (·.1), n ∉ v.map (·.1)) : over u (over v O) = over v (over u O) := by
  funext n
  by_cases h1 : n ∈ u.map (·.1)
  · rw [over_none (h n h1)]
    unfold over
    cases lkp u n with
    | none => simp only; have := over_none (h n h1) O; unfold over at this; exact this
    | some x => rfl
  · rw [over_none h1]
    unfold over
    cases hl : lkp v n with
    | none => simp only; have := over_none h1 O; unfold over at this; exact this.symm
    | some x => rfl

/-- what an operation does to a state -/
structure Eff where
  b : Bool
  av : AV
  u : Upd

/-- the step, told through what it does -/
theorem Did.at {o : Oper} {s t : St} {x : Log} {s' : St} (h : Did c I o s x s') (hσ : ∀ d, .tmp d ∈ o.op.operands → lkp s.σ d = lkp t.σ d) (hO : ∀ n ∈ x.ns, lkp t.O n = lkp s.O n) (hw : ∀ n ∈ x.ws, lkp s.O n = none → lkp t.O n = none) :
    ∃ av u, x.ws = u.map (·.1) ∧ lkp s'.σ = putF o.dst av (lkp s.σ) ∧ lkp s'.O = over u (lkp s.O) ∧ ∀ t', lkp t'.σ = putF o.dst av (lkp t.σ) → lkp t'.O = over u (lkp t.O) → Did c I o t x t' := by
  obtain ⟨av, u, h1, h2, h3, h4, h5, h6⟩ := h.did
  refine ⟨av, u, h6, h3, h4, ?_⟩
  intro t' e1 e2
  rw [h5] at hO
  have hO' := hO
  have hns : namesAt t.σ t.O o = namesAt s.σ s.O o := namesAt_congr hσ hO
  refine ⟨av, u, ?_, ?_, e1, e2, by rw [hns]; exact h5, h6⟩
  · rw [hns, lookIn_congr hO, ← opC_congr hσ]; exact h1
  · rw [hns]
    exact updOk_congr hO' (by rw [← h6]; exact hw) h2

/-- two steps change places -/
theorem swap {oi oj : Oper} {xi xj : Log} {s s1 s2 : St} (hi : AStep c I nt ops oi s xi s1) (hj : AStep c I nt ops oj s1 xj s2) (hap : oi.apart ops oj = true) (hl : apartB xj xi = true) :
    ∃ t1, AStep c I nt ops oj s xj t1 ∧ AStep c I nt ops oi t1 xi s2 := by
  obtain ⟨a1, a2, a3⟩ := Oper.apart_spec hap
  simp only [apartB, Bool.and_eq_true, disjB_iff] at hl
  obtain ⟨⟨l1, l2⟩, l3⟩ := hl
  obtain ⟨di, hi⟩ := hi
  obtain ⟨dj, hj⟩ := hj
  -- what i has changed
  have hs1 : (∀ t, oi.dst ≠ some t → lkp s1.σ t = lkp s.σ t) ∧ (∀ n, n ∉ xi.ws → lkp s1.O n = lkp s.O n) := by
    rcases hi with ⟨_, hi⟩ | ⟨_, hi⟩
    · obtain ⟨av, u, _, _, h3, h4, _, h6⟩ := hi.did
      exact ⟨fun t ht => by rw [h3, putF_ne ht], fun n hn => by rw [h4, over_none (by rw [← h6]; exact hn)]⟩
    · exact ⟨fun t ht => by rw [hi.σ, putF_ne ht], fun n _ => by rw [hi.O]⟩
  have hσj : ∀ t ∈ oj.looksAt ops, lkp s.σ t = lkp s1.σ t := fun t ht => (hs1.1 t (fun e => a1 t e ht)).symm
  -- j first
  have hj1 : ∃ (avj : AV) (uj : Upd), xj.ws = uj.map (·.1) ∧ lkp s2.σ = putF oj.dst avj (lkp s1.σ) ∧ lkp s2.O = over uj (lkp s1.O) ∧
      ∀ t1, lkp t1.σ = putF oj.dst avj (lkp s.σ) → lkp t1.O = over uj (lkp s.O) → AStep c I nt ops oj s xj t1 := by
    rcases hj with ⟨wj, hj⟩ | ⟨wj, hj⟩
    · obtain ⟨av, u, h1, h2, h3, h4⟩ := hj.at (t := s) (fun d hd => (hσj d (looks_op hd)).symm) (fun n hn => (hs1.2 n (fun h => l3 n h hn)).symm) (fun n hn h0 => by
        rw [hs1.2 n (l2 n hn)] at h0; exact h0)
      exact ⟨av, u, h1, h2, h3, fun t1 e1 e2 => ⟨dj, .inl ⟨wj.congr hσj, h4 t1 e1 e2⟩⟩⟩
    · refine ⟨.tup [], [], by rw [hj.ws]; rfl, hj.σ, by rw [hj.O, over_nil], fun t1 e1 e2 => ⟨dj, .inr ⟨wj.congr hσj, ⟨e1, by rw [e2, over_nil], hj.ns, hj.ws⟩⟩⟩⟩
  obtain ⟨avj, uj, j1, j2, j3, j4⟩ := hj1
  have ht : ∃ t1 : St, lkp t1.σ = putF oj.dst avj (lkp s.σ) ∧ lkp t1.O = over uj (lkp s.O) := by
    refine ⟨⟨match oj.dst with | none => s.σ | some d => (d, avj) :: s.σ, uj ++ s.O⟩, ?_, (over_lkp _ _).symm⟩
    cases oj.dst with
    | none => rfl
    | some d =>
      funext t
      show lkp ((d, avj) :: s.σ) t = _
      rw [lkp_cons]; rfl
  obtain ⟨t1, e1, e2⟩ := ht
  refine ⟨t1, j4 t1 e1 e2, di, ?_⟩
  have hσi : ∀ t ∈ oi.looksAt ops, lkp t1.σ t = lkp s.σ t := fun t ht => by rw [e1, putF_ne (fun e => a3 t e ht)]
  have hput : ∀ av, putF oi.dst av (lkp t1.σ) = putF oj.dst avj (putF oi.dst av (lkp s.σ)) := by
    intro av
    rw [e1]
    exact putF_comm a2
  rcases hi with ⟨wi, hi⟩ | ⟨wi, hi⟩
  · refine .inl ⟨wi.congr hσi, ?_⟩
    obtain ⟨av, u, h1, h2, h3, h4⟩ := hi.at (t := t1) (fun d hd => (hσi d (looks_op hd)).symm) (fun n hn => by
        rw [e2, over_none (by rw [← j1]; exact fun h => l1 n h hn)]) (fun n hn h0 => by
        rw [e2, over_none (by rw [← j1]; exact fun h => l2 n h hn)]; exact h0)
    refine h4 s2 ?_ ?_
    · rw [hput, j2, h2]
    · rw [j3, h3, e2]
      exact over_comm (by rw [← h1, ← j1]; exact l2)
  · refine .inr ⟨wi.congr hσi, ?_, ?_, hi.ns, hi.ws⟩
    · rw [hput, j2, hi.σ]
    · rw [j3, e2, hi.O]

/-! ### a look into a map, and a place made in one -/
theorem mget_place (t : Ty) {β : Type} (z : β) (key k' : t.V) : ∀ m : List (t.V × β), (mget t z key (mput t k' (mget t z k' m).1 m)).1 = (mget t z key m).1
  | [] => by
    show (mget t z key [(k', z)]).1 = z
    simp only [mget]
    cases keyEq t key k' <;> rfl
  | p :: m => by
    cases h : keyEq t k' p.1 with
    | true =>
      simp only [mget, mput, h, cond_true]
    | false =>
      simp only [mget, mput, h, cond_false]
      cases h2 : keyEq t key p.1 with
      | true => rfl
      | false => simp only [cond_false]; exact mget_place t z key k' m

theorem reach_names {O O' : List (Nat × AObj)} (h : ∀ n, optL (lkp O' n) AObj.names = optL (lkp O n) AObj.names) : ∀ (k : Nat) (ns : List Nat), reach O' k ns = reach O k ns
  | 0, _ => rfl
  | k + 1, ns => by
    simp only [reach]
    rw [flatMap_congr' (fun n _ => h n), reach_names h k]

theorem lookup_soft {O O' : List (Nat × AObj)} {σ : List (Nat × AV)} {d : Nat} {o : Oper} {T T' : TypeId} {x i : Operand} (ho : o.op = .lookup T x i false) {n k e : Nat} {t u : Ty} {m m' : List (t.V × u.V)} {key : t.V} {z : u.V} {ve : TE} {lz : List Lf}
    (hn : lkp O n = some (.mp k e t u m)) (hn' : lkp O' n = some (.mp k e t u m')) (hoth : ∀ q, q ≠ n → lkp O' q = lkp O q) (hve : lkp c.te e = some ve) (hz : toTy u ve.z = some (z, lz)) (hm : m' = mput t key (mget t z key m).1 m) {av : AV} {up : Upd} {ns : List Nat}
    (h : opC c I σ (lookIn O ns) ns d o two = some (av, up)) : opC c I σ (lookIn O' ns) ns d o two = some (av, up) := by
  obtain ⟨dst, op, type, pos, after, guard⟩ := o
  simp only at ho
  subst ho
  simp only [opC, Option.bind_eq_some_iff] at h ⊢
  obtain ⟨a, h1, b, h2, h3⟩ := h
  refine ⟨a, h1, b, h2, ?_⟩
  unfold lookupOp at h3 ⊢
  split at h3
  · rename_i q
    by_cases hq : q = n
    · subst hq
      unfold lookIn at h3 ⊢
      cases hb : memB ns q with
      | false => rw [hb] at h3; cases h3
      | true =>
        rw [hb] at h3
        simp only [cond_true] at h3 ⊢
        rw [hn] at h3; rw [hn']
        simp only [fltO] at h3 ⊢
        cases hok : mapOk c T k e t u with
        | false => rw [hok] at h3; cases h3
        | true =>
          rw [hok] at h3
          simp only [cond_true, cond_false, Option.bind_eq_some_iff] at h3 ⊢
          obtain ⟨key', h4, ve', h5, z', h6, h7⟩ := h3
          rw [hve] at h5; cases h5
          rw [hz] at h6; cases h6
          refine ⟨key', h4, ve, hve, (z, lz), hz, ?_⟩
          rw [hm, mget_place]; exact h7
    · have : lookIn O' ns q = lookIn O ns q := by unfold lookIn; rw [hoth q hq]
      simp only [this]; exact h3
  · cases h3

theorem place_upd {O : List (Nat × AObj)} {σ : List (Nat × AV)} {d : Nat} {o : Oper} {T : TypeId} {x i : Operand} (ho : o.op = .mapEntry T x i) {av : AV} {up : Upd} {ns : List Nat} (h : opC c I σ (lookIn O ns) ns d o two = some (av, up)) :
    ∃ n k e t u, ∃ m : List (t.V × u.V), ∃ key z ve lz, lkp O n = some (.mp k e t u m) ∧ lkp c.te e = some ve ∧ toTy u ve.z = some (z, lz) ∧ up = [(n, .mp k e t u (mput t key (mget t z key m).1 m))] := by
  obtain ⟨dst, op, type, pos, after, guard⟩ := o
  simp only at ho
  subst ho
  simp only [opC, Option.bind_eq_some_iff] at h
  obtain ⟨a, h1, b, h2, h3⟩ := h
  unfold mapPlaceOp at h3
  split at h3
  · rename_i n
    split at h3
    · rename_i k e t u m hl
      cases hok : mapOk c T k e t u with
      | false => rw [hok] at h3; cases h3
      | true =>
        rw [hok] at h3
        simp only [cond_true, Option.bind_eq_some_iff, two, Option.some.injEq, Prod.mk.injEq] at h3
        obtain ⟨key, h4, ve, h5, z, h6, h7, h8⟩ := h3
        refine ⟨n, k, e, t, u, m, key, z.1, ve, z.2, ?_, h5, h6, h8.symm⟩
        unfold lookIn at hl
        cases hb : memB ns n with
        | false => rw [hb] at hl; cases hl
        | true => rw [hb] at hl; exact (fltO_some hl).1
    · cases h3
  · cases h3

theorem look_upd {lk : Nat → Option AObj} {σ : List (Nat × AV)} {d : Nat} {o : Oper} {T : TypeId} {x i : Operand} (ho : o.op = .lookup T x i false) {av : AV} {up : Upd} {ns : List Nat} (h : opC c I σ lk ns d o two = some (av, up)) : up = [] := by
  obtain ⟨dst, op, type, pos, after, guard⟩ := o
  simp only at ho
  subst ho
  simp only [opC, Option.bind_eq_some_iff] at h
  obtain ⟨a, h1, b, h2, h3⟩ := h
  unfold lookupOp at h3
  split at h3
  · split at h3
    · rename_i k e t u m hl
      cases hok : mapOk c T k e t u with
      | false => rw [hok] at h3; cases h3
      | true =>
        rw [hok] at h3
        simp only [cond_true, cond_false, Option.bind_eq_some_iff, two, Option.some.injEq, Prod.mk.injEq] at h3
        obtain ⟨key, h4, ve, h5, z, h6, h7, h8⟩ := h3
        exact h8.symm
    · cases h3
  · cases h3

theorem swap_soft1 {oi oj : Oper} {xi xj : Log} {s s1 s2 : St} (hi : AStep c I nt ops oi s xi s1) (hj : AStep c I nt ops oj s1 xj s2) (hap : oi.apart ops oj = true) (hl : soft1 oi oj = true) :
    ∃ t1, AStep c I nt ops oj s xj t1 ∧ AStep c I nt ops oi t1 xi s2 := by
  have skip : (xi.ns = [] ∧ xi.ws = []) ∨ (xj.ns = [] ∧ xj.ws = []) → ∃ t1, AStep c I nt ops oj s xj t1 ∧ AStep c I nt ops oi t1 xi s2 := by
    intro h
    refine swap hi hj hap ?_
    simp only [apartB, Bool.and_eq_true, disjB_iff]
    rcases h with ⟨h1, h2⟩ | ⟨h1, h2⟩ <;> simp [h1, h2]
  unfold soft1 at hl
  split at hl
  case h_2 => cases hl
  rename_i Ti xi' ii Tj xj' ij hoi hoj
  obtain ⟨a1, a2, a3⟩ := Oper.apart_spec hap
  obtain ⟨di, hi⟩ := hi
  obtain ⟨dj, hj⟩ := hj
  rcases hi with ⟨wi, hi⟩ | ⟨wi, hi⟩
  case inr => exact skip (.inl ⟨hi.ns, hi.ws⟩)
  rcases hj with ⟨wj, hj⟩ | ⟨wj, hj⟩
  case inr => exact skip (.inr ⟨hj.ns, hj.ws⟩)
  obtain ⟨avi, ui, i1, i2, i3, i4, i5, i6⟩ := hi.did
  have hui := look_upd hoi i1
  subst hui
  have hO1 : lkp s1.O = lkp s.O := by rw [i4, over_nil]
  have hσj : ∀ t ∈ oj.looksAt ops, lkp s.σ t = lkp s1.σ t := fun t ht => by rw [i3, putF_ne (fun e => a1 t e ht)]
  obtain ⟨avj, uj, j1, j2, j3, j4⟩ := hj.at (t := s) (fun d hd => (hσj d (looks_op hd)).symm) (fun n _ => by rw [hO1]) (fun n _ h0 => by rw [hO1] at h0; exact h0)
  obtain ⟨t1, e1, e2⟩ : ∃ t1 : St, lkp t1.σ = putF oj.dst avj (lkp s.σ) ∧ lkp t1.O = over uj (lkp s.O) := by
    refine ⟨⟨match oj.dst with | none => s.σ | some d => (d, avj) :: s.σ, uj ++ s.O⟩, ?_, (over_lkp _ _).symm⟩
    cases oj.dst with
    | none => rfl
    | some d =>
      funext t
      show lkp ((d, avj) :: s.σ) t = _
      rw [lkp_cons]; rfl
  have hdj := j4 t1 e1 e2
  refine ⟨t1, ⟨dj, .inl ⟨wj.congr hσj, hdj⟩⟩, di, ?_⟩
  obtain ⟨av2, u2, k1, k2, k3, k4, k5, k6⟩ := hdj.did
  obtain ⟨n, k, e, t, u, m, key, z, ve, lz, g1, g2, g3, g4⟩ := place_upd hoj k1
  have hOt : lkp t1.O = upd (lkp s.O) n (some (.mp k e t u (mput t key (mget t z key m).1 m))) := by rw [k4, g4, over_cons, over_nil]
  have hn' : lkp t1.O n = some (.mp k e t u (mput t key (mget t z key m).1 m)) := by rw [hOt, upd_same]
  have hoth : ∀ q, q ≠ n → lkp t1.O q = lkp s.O q := fun q hq => by rw [hOt, upd_ne _ _ _ _ hq]
  have hσi : ∀ t ∈ oi.looksAt ops, lkp t1.σ t = lkp s.σ t := fun t ht => by rw [e1, putF_ne (fun e => a3 t e ht)]
  have hnames : namesAt t1.σ t1.O oi = namesAt s.σ s.O oi := by
    rw [namesAt_slots (O := t1.O) (fun d hd => hσi d (looks_op hd))]
    have hb1 : boxOnly s.σ t1.O oi = none := by unfold boxOnly; rw [hoi]
    have hb2 : boxOnly s.σ s.O oi = none := by unfold boxOnly; rw [hoi]
    unfold namesAt
    rw [hb1, hb2]
    refine reach_names ?_ _ _
    intro q
    by_cases hq : q = n
    · subst hq; rw [hn', g1]; rfl
    · rw [hoth q hq]
  refine .inl ⟨wi.congr hσi, ⟨avi, [], ?_, ?_, ?_, ?_, ?_, i6⟩⟩
  · rw [hnames, ← opC_congr (fun d hd => (hσi d (looks_op hd)).symm)]
    exact lookup_soft (T' := Tj) hoi g1 hn' hoth g2 g3 rfl i1
  · rfl
  · rw [j2, i3, e1]; exact (putF_comm a2).symm
  · rw [over_nil, j3, hO1, e2]
  · rw [hnames]; exact i5
/-! ### parts of rows, and slots' values -/
/-- the same but for rows' marks -/
def Fz (O O' : Nat → Option AObj) : Prop := ∀ n, O' n = O n ∨ ∃ e t, ∃ xs : List t.V, ∃ f f', O n = some (.row e t xs f) ∧ O' n = some (.row e t xs f')
theorem Fz.none {O O' : Nat → Option AObj} (h : Fz O O') (n : Nat) : O n = none ↔ O' n = none := by
  rcases h n with h | ⟨e, t, xs, f, f', h1, h2⟩
  · rw [h]
  · rw [h1, h2]; simp
theorem Fz.plain {O O' : Nat → Option AObj} (h : Fz O O') (n : Nat) : plainO (O' n) = plainO (O n) := by
  rcases h n with h | ⟨e, t, xs, f, f', h1, h2⟩
  · rw [h]
  · rw [h1, h2]; rfl
theorem Fz.names {O O' : List (Nat × AObj)} (h : Fz (lkp O) (lkp O')) (n : Nat) : optL (lkp O' n) AObj.names = optL (lkp O n) AObj.names := by
  rcases h n with h | ⟨e, t, xs, f, f', h1, h2⟩
  · rw [h]
  · rw [h1, h2]; rfl
theorem Fz.look {O O' : List (Nat × AObj)} (h : Fz (lkp O) (lkp O')) (ns : List Nat) : Fz (lookIn O ns) (lookIn O' ns) := by
  intro n
  unfold lookIn
  cases memB ns n with
  | false => exact .inl rfl
  | true =>
    simp only [cond_true]
    rcases h n with h | ⟨e, t, xs, f, f', h1, h2⟩
    · rw [h]; exact .inl rfl
    · rw [h1, h2]; exact .inr ⟨e, t, xs, f, f', rfl, rfl⟩
theorem Fz.upd {O O' : List (Nat × AObj)} (h : Fz (lkp O) (lkp O')) (ns : List Nat) (d : Nat) : ∀ u : Upd, updOk O' ns d u = updOk O ns d u
  | [] => rfl
  | (n, x) :: u => by
    simp only [updOk]
    have h1 : (lkp O' n).isNone = (lkp O n).isNone := by
      rw [Bool.eq_iff_iff, Option.isNone_iff_eq_none, Option.isNone_iff_eq_none]; exact (h.none n).symm
    rw [h1, h.plain n, h.upd ns d u]
theorem quiet_names {σ : List (Nat × AV)} {O O' : List (Nat × AObj)} {mt : List TypeId} {o : Oper} (hq : quiet mt o = true) (h : Fz (lkp O) (lkp O')) : namesAt σ O' o = namesAt σ O o := by
  obtain ⟨dst, op, type, pos, after, guard⟩ := o
  have hb : ∀ O, boxOnly σ O ⟨dst, op, type, pos, after, guard⟩ = none := by
    intro O
    unfold quiet at hq
    unfold boxOnly
    cases op <;> first | rfl | cases hq
  unfold namesAt
  rw [hb, hb]
  exact reach_names (fun n => h.names n) _ _
theorem sliceOp_fz {ρ : Type} {lk lk' : Nat → Option AObj} (h : Fz lk lk') (T : TypeId) (x : Lf) (lo hi : Option AV) (K : AV → Upd → Option ρ) : sliceOp c lk' T x lo hi K = sliceOp c lk T x lo hi K := by
  unfold sliceOp
  split
  · rfl
  · rfl
  · rename_i n
    rcases h n with h | ⟨e, t, xs, f, f', h1, h2⟩
    · rw [h]
    · rw [h1, h2]
  · rfl
theorem quiet_same {σ : List (Nat × AV)} {lk lk' : Nat → Option AObj} {ns : List Nat} {d : Nat} {o : Oper} (hq : quiet c.moveT o = true) (h : Fz lk lk') : opC c I σ lk' ns d o two = opC c I σ lk ns d o two := by
  obtain ⟨dst, op, type, pos, after, guard⟩ := o
  unfold quiet at hq
  cases op <;> first | cases hq | skip
  · rfl
  · rename_i T x lo hi mx
    have hm : memB c.moveT T = false := by simpa using hq
    simp only [opC, hm, Bool.false_and, cond_false]
    simp only [sliceOp_fz h]
theorem quiet_upd {σ : List (Nat × AV)} {O : List (Nat × AObj)} {ns : List Nat} {d : Nat} {o : Oper} {av : AV} {u : Upd} (hq : quiet c.moveT o = true) (h : opC c I σ (lookIn O ns) ns d o two = some (av, u)) :
    u = [] ∨ ∃ n e t, ∃ xs : List t.V, ∃ f, lkp O n = some (.row e t xs f) ∧ u = [(n, .row e t xs true)] := by
  obtain ⟨dst, op, type, pos, after, guard⟩ := o
  unfold quiet at hq
  cases op <;> first | cases hq | skip
  · simp only [opC, Option.bind_eq_some_iff, two, Option.some.injEq, Prod.mk.injEq] at h
    obtain ⟨a, _, _, h2⟩ := h
    exact .inl h2.symm
  · rename_i T x lo hi mx
    have hm : memB c.moveT T = false := by simpa using hq
    simp only [opC, hm, Bool.false_and, cond_false] at h
    cases hmx : mx.isNone with
    | false => rw [hmx] at h; cases h
    | true =>
      rw [hmx] at h
      simp only [cond_true, Option.bind_eq_some_iff] at h
      obtain ⟨a, _, l, hl0, lv, _, hv, _, h⟩ := h
      clear hl0
      unfold sliceOp at h
      split at h
      · left
        cases hb : strOk c T with
        | false => rw [hb] at h; cases h
        | true =>
          rw [hb] at h
          simp only [cond_true, Option.bind_eq_some_iff, bindD, two, Option.some.injEq, Prod.mk.injEq] at h
          obtain ⟨_, _, _, _, _, _, _, h⟩ := h
          exact h.symm
      · rename_i t xs
        left
        cases hb : eltOk c T t with
        | false => rw [hb] at h; cases h
        | true =>
          rw [hb] at h
          simp only [cond_true, Option.bind_eq_some_iff, bindD, two, Option.some.injEq, Prod.mk.injEq] at h
          obtain ⟨_, _, _, _, _, _, _, h⟩ := h
          exact h.symm
      · rename_i n
        split at h
        · rename_i e t xs f hl
          cases hb : eltOk c T t with
          | false => rw [hb] at h; cases h
          | true =>
            rw [hb] at h
            simp only [cond_true, Option.bind_eq_some_iff, bindD, two, Option.some.injEq, Prod.mk.injEq] at h
            obtain ⟨_, _, _, _, _, _, _, h⟩ := h
            refine .inr ⟨n, e, t, xs, f, ?_, h.symm⟩
            unfold lookIn at hl
            cases hm : memB ns n with
            | false => rw [hm] at hl; cases hl
            | true => rw [hm] at hl; exact (fltO_some hl).1
        · cases h
      · cases h
theorem Fz.of_upd {O : Nat → Option AObj} {u : Upd} (h : u = [] ∨ ∃ n e t, ∃ xs : List t.V, ∃ f, O n = some (.row e t xs f) ∧ u = [(n, .row e t xs true)]) : Fz O (over u O) := by
  intro m
  rcases h with rfl | ⟨n, e, t, xs, f, h1, rfl⟩
  · exact .inl rfl
  · rw [over_cons, over_nil]
    by_cases hm : m = n
    · subst hm
      exact .inr ⟨e, t, xs, f, true, h1, upd_same _ _ _⟩
    · exact .inl (upd_ne _ _ _ _ hm)
theorem Fz.symm {O O' : Nat → Option AObj} (h : Fz O O') : Fz O' O := fun n => by
  rcases h n with h | ⟨e, t, xs, f, f', h1, h2⟩
  · exact .inl h.symm
  · exact .inr ⟨e, t, xs, f', f, h2, h1⟩
/-- a change of marks is one of what stood there before others -/
theorem Fz.back {O O' : Nat → Option AObj} (h : Fz O O') {u : Upd} (hu : u = [] ∨ ∃ n e t, ∃ xs : List t.V, ∃ f, O' n = some (.row e t xs f) ∧ u = [(n, .row e t xs true)]) :
    u = [] ∨ ∃ n e t, ∃ xs : List t.V, ∃ f, O n = some (.row e t xs f) ∧ u = [(n, .row e t xs true)] := by
  rcases hu with hu | ⟨n, e, t, xs, f, h1, h2⟩
  · exact .inl hu
  · rcases h n with h | ⟨e', t', xs', f1, f2, g1, g2⟩
    · exact .inr ⟨n, e, t, xs, f, by rw [← h]; exact h1, h2⟩
    · rw [h1] at g2
      cases g2
      exact .inr ⟨n, e, t, xs, f1, g1, h2⟩
theorem quiet_comm {O : Nat → Option AObj} {u v : Upd} (hu : u = [] ∨ ∃ n e t, ∃ xs : List t.V, ∃ f, O n = some (.row e t xs f) ∧ u = [(n, .row e t xs true)])
    (hv : v = [] ∨ ∃ n e t, ∃ xs : List t.V, ∃ f, O n = some (.row e t xs f) ∧ v = [(n, .row e t xs true)]) : over u (over v O) = over v (over u O) := by
  rcases hu with rfl | ⟨n, e, t, xs, f, h1, rfl⟩
  · rfl
  rcases hv with rfl | ⟨m, e', t', xs', f', h2, rfl⟩
  · rfl
  by_cases hnm : n = m
  · subst hnm
    rw [h1] at h2
    cases h2
    rfl
  · exact over_comm (by simpa using hnm)
theorem swap_quiet {oi oj : Oper} {xi xj : Log} {s s1 s2 : St} (hi : AStep c I nt ops oi s xi s1) (hj : AStep c I nt ops oj s1 xj s2) (hap : oi.apart ops oj = true) (hq1 : quiet c.moveT oi = true) (hq2 : quiet c.moveT oj = true) :
    ∃ t1, AStep c I nt ops oj s xj t1 ∧ AStep c I nt ops oi t1 xi s2 := by
  have skip : (xi.ns = [] ∧ xi.ws = []) ∨ (xj.ns = [] ∧ xj.ws = []) → ∃ t1, AStep c I nt ops oj s xj t1 ∧ AStep c I nt ops oi t1 xi s2 := by
    intro h
    refine swap hi hj hap ?_
    simp only [apartB, Bool.and_eq_true, disjB_iff]
    rcases h with ⟨h1, h2⟩ | ⟨h1, h2⟩ <;> simp [h1, h2]
  obtain ⟨a1, a2, a3⟩ := Oper.apart_spec hap
  obtain ⟨di, hi⟩ := hi
  obtain ⟨dj, hj⟩ := hj
  rcases hi with ⟨wi, hi⟩ | ⟨wi, hi⟩
  case inr => exact skip (.inl ⟨hi.ns, hi.ws⟩)
  rcases hj with ⟨wj, hj⟩ | ⟨wj, hj⟩
  case inr => exact skip (.inr ⟨hj.ns, hj.ws⟩)
  obtain ⟨avi, ui, i1, i2, i3, i4, i5, i6⟩ := hi.did
  obtain ⟨avj, uj, j1, j2, j3, j4, j5, j6⟩ := hj.did
  have hui := quiet_upd hq1 i1
  have hf1 : Fz (lkp s.O) (lkp s1.O) := by rw [i4]; exact Fz.of_upd hui
  have huj := hf1.back (quiet_upd hq2 j1)
  have hσj : ∀ t ∈ oj.looksAt ops, lkp s.σ t = lkp s1.σ t := fun t ht => by rw [i3, putF_ne (fun e => a1 t e ht)]
  obtain ⟨t1, e1, e2⟩ : ∃ t1 : St, lkp t1.σ = putF oj.dst avj (lkp s.σ) ∧ lkp t1.O = over uj (lkp s.O) := by
    refine ⟨⟨match oj.dst with | none => s.σ | some d => (d, avj) :: s.σ, uj ++ s.O⟩, ?_, (over_lkp _ _).symm⟩
    cases oj.dst with
    | none => rfl
    | some d =>
      funext t
      show lkp ((d, avj) :: s.σ) t = _
      rw [lkp_cons]; rfl
  have hf2 : Fz (lkp s.O) (lkp t1.O) := by rw [e2]; exact Fz.of_upd huj
  have hσi : ∀ t ∈ oi.looksAt ops, lkp t1.σ t = lkp s.σ t := fun t ht => by rw [e1, putF_ne (fun e => a3 t e ht)]
  have nj : namesAt s1.σ s1.O oj = namesAt s.σ s.O oj := (namesAt_slots (fun d hd => (hσj d (looks_op hd)).symm)).trans (quiet_names hq2 hf1)
  have ni : namesAt t1.σ t1.O oi = namesAt s.σ s.O oi := (namesAt_slots (fun d hd => hσi d (looks_op hd))).trans (quiet_names hq1 hf2)
  refine ⟨t1, ⟨dj, .inl ⟨wj.congr hσj, ⟨avj, uj, ?_, ?_, e1, e2, ?_, j6⟩⟩⟩, di, .inl ⟨wi.congr hσi, ⟨avi, ui, ?_, ?_, ?_, ?_, ?_, i6⟩⟩⟩
  · rw [nj] at j1
    rw [opC_congr (fun d hd => hσj d (looks_op hd)), ← quiet_same hq2 (hf1.look _)]
    exact j1
  · rw [nj, hf1.upd] at j2; exact j2
  · rw [j5, nj]
  · rw [ni, opC_congr (fun d hd => hσi d (looks_op hd)), quiet_same hq1 (hf2.look _)]
    exact i1
  · rw [ni, hf2.upd]; exact i2
  · rw [j3, i3, e1]; exact (putF_comm a2).symm
  · rw [j4, i4, e2]; exact (quiet_comm hui huj).symm
  · rw [i5, ni]
theorem swap_soft {oi oj : Oper} {xi xj : Log} {s s1 s2 : St} (hi : AStep c I nt ops oi s xi s1) (hj : AStep c I nt ops oj s1 xj s2) (hap : oi.apart ops oj = true) (hl : soft2 c.moveT oi oj = true) :
    ∃ t1, AStep c I nt ops oj s xj t1 ∧ AStep c I nt ops oi t1 xi s2 := by
  simp only [soft2, Bool.or_eq_true, Bool.and_eq_true] at hl
  rcases hl with hl | ⟨h1, h2⟩
  · exact swap_soft1 hi hj hap hl
  · exact swap_quiet hi hj hap h1 h2
end
end Go.Proofs.R

/- A region in any order that is allowed; a region in the order of its list. -/
namespace Go.Proofs.R
open Go

/-- what lets a region that draws its order be told in the order of its list -/
def drawOk (ops : Array Oper) : Bool :=
  ops.toList.zipIdx.all fun q => q.1.after.toList.all (fun e => !Region.binds .any e || Nat.blt e.on q.2) &&
    ops.toList.zipIdx.all fun p => !Nat.blt p.2 q.2 || p.1.apart ops q.1 || befB ops p.2 8 q.2

section
variable {P : Program} {c : Ctx} {I : Interp c} {nt : Nat} {ops : Array Oper}

theorem drawOk_spec (h : drawOk ops = true) : (∀ j o, ops[j]? = some o → ∀ e ∈ o.after, Region.binds .any e = true → e.on < j) ∧
    ∀ i j oi oj, ops[i]? = some oi → ops[j]? = some oj → i < j → oi.apart ops oj = true ∨ befB ops i 8 j = true := by
  have hm : ∀ j o, ops[j]? = some o → (o, j) ∈ ops.toList.zipIdx := by
    intro j o ho
    rw [List.mem_zipIdx_iff_getElem?]
    simpa using ho
  simp only [drawOk, List.all_eq_true, Bool.and_eq_true] at h
  constructor
  · intro j o ho e he hb
    have := (h (o, j) (hm j o ho)).1 e (by simpa using he)
    rw [hb] at this
    simp only [Bool.not_true, Bool.false_or] at this
    exact Nat.le_of_ble_eq_true this
  · intro i j oi oj hi hj hij
    have := (h (oj, j) (hm j oj hj)).2 (oi, i) (hm i oi hi)
    have hlt : Nat.blt i j = true := Nat.ble_eq_true_of_le hij
    simp only [hlt, Bool.not_true, Bool.false_or, Bool.or_eq_true] at this
    exact this

def Closed (ops : Array Oper) (listed : Array Bool) : Prop :=
  ∀ j, listed.getD j false = true → ∀ o, ops[j]? = some o → ∀ e ∈ o.after, Region.binds .any e = true → listed.getD e.on false = true

theorem befB_listed {listed : Array Bool} (hc : Closed ops listed) {i : Nat} : ∀ (k j : Nat) (o : Oper), ops[j]? = some o → (∀ e ∈ o.after, Region.binds .any e = true → listed.getD e.on false = true) → befB ops i k j = true → listed.getD i false = true
  | 0, j, o, _, _, h => by simp [befB] at h
  | k + 1, j, o, ho, ha, h => by
    simp only [befB, ho, Bool.or_eq_true, List.any_eq_true, Bool.and_eq_true] at h
    rcases h with ⟨e, he, hb, hi⟩ | ⟨e, he, hb, hi⟩
    · rw [← Nat.eq_of_beq_eq_true hi]; exact ha e (by simpa using he) hb
    · have h1 := ha e (by simpa using he) hb
      cases ho' : ops[e.on]? with
      | none => cases k <;> simp [befB, ho'] at hi
      | some o' => exact befB_listed hc k e.on o' ho' (hc e.on h1 o' ho') hi

/-- in any order -/
def AAny (c : Ctx) (I : Interp c) (nt : Nat) (ops : Array Oper) (L : Nat → Log) (fin : St) : Nat → Array Bool → St → Prop
  | 0, listed, st => Region.ready .any ops listed = [] ∧ Eqv st fin
  | k + 1, listed, st => (Region.ready .any ops listed = [] → Eqv st fin) ∧
      ∀ i ∈ Region.ready .any ops listed, ∀ o, ops[i]? = some o → ∃ st', AStep c I nt ops o st (L i) st' ∧ AAny c I nt ops L fin k (listed.setIfInBounds i true) st'

theorem AAny.first {L : Nat → Log} {fin : St} {i : Nat} {oi : Oper} (hi : ops[i]? = some oi) : ∀ (fuel : Nat) (listed : Array Bool) (s s1 : St), Closed ops listed →
    (∀ j oj, ops[j]? = some oj → j ≠ i → listed.getD j true = false → (oi.apart ops oj = true ∧ (apartB (L j) (L i) = true ∨ soft2 c.moveT oi oj = true)) ∨ befB ops i 8 j = true) →
    i ∈ Region.ready .any ops listed → AStep c I nt ops oi s (L i) s1 → AAny c I nt ops L fin fuel (listed.setIfInBounds i true) s1 → AAny c I nt ops L fin (fuel + 1) listed s := by
  intro fuel
  induction fuel with
  | zero =>
    intro listed s s1 hcl hfree hr hy H
    refine ⟨fun h => (by rw [h] at hr; cases hr), fun j hj oj hoj => ?_⟩
    by_cases hji : j = i
    · subst hji; rw [hi] at hoj; cases hoj; exact ⟨s1, hy, H⟩
    · have := ready_mono hj hji
      rw [H.1] at this
      cases this
  | succ fuel ih =>
    intro listed s s1 hcl hfree hr hy H
    refine ⟨fun h => (by rw [h] at hr; cases hr), fun j hj oj hoj => ?_⟩
    by_cases hji : j = i
    · subst hji; rw [hi] at hoj; cases hoj; exact ⟨s1, hy, H⟩
    · obtain ⟨hjun, oj', hoj', hall⟩ := mem_ready.1 hj
      rw [hoj] at hoj'; cases hoj'
      obtain ⟨s2, h1, h2⟩ := H.2 j (ready_mono hj hji) oj hoj
      have hiun := (mem_ready.1 hr).1
      have hiF : listed.getD i false ≠ true := by
        intro h
        rcases Nat.lt_or_ge i listed.size with h' | h'
        · simp [h'] at h hiun; rw [h] at hiun; cases hiun
        · simp [Array.getElem?_eq_none h'] at h
      have hap := (hfree j oj hoj hji hjun).resolve_right (fun hb => hiF (befB_listed hcl 8 j oj hoj hall hb))
      obtain ⟨t1, h3, h4⟩ := hap.2.elim (fun hq => swap hy h1 hap.1 hq) (fun hq => swap_soft hy h1 hap.1 hq)
      refine ⟨t1, h3, ih (listed.setIfInBounds j true) t1 s2 ?_ ?_ (ready_mono hr (Ne.symm hji)) h4 ?_⟩
      · intro k hk o ho e he hb
        by_cases hkj : j = k
        · subst hkj; rw [hoj] at ho; cases ho
          exact getD_set_true (hall e he hb)
        · rw [getD_set_ne false hkj] at hk
          exact getD_set_true (hcl k hk o ho e he hb)
      · intro k ok hk hki hun
        refine hfree k ok hk hki ?_
        by_cases hjk : j = k
        · subst hjk; exact hjun
        · rw [getD_set_ne true hjk] at hun; exact hun
      · rw [Array.setIfInBounds_comm _ _ hji]
        exact h2

/-- in the order of the list, with these logs -/
def ChainL (c : Ctx) (I : Interp c) (nt : Nat) (ops : Array Oper) (L : Nat → Log) (fin : St) : List Oper → Nat → St → Prop
  | [], _, st => st = fin
  | o :: l, k, st => ∃ st', AStep c I nt ops o st (L k) st' ∧ ChainL c I nt ops L fin l (k + 1) st'

theorem lex_any {L : Nat → Log} {fin : St} (hd : drawOk ops = true) (hL : ∀ i j, i < j → j < ops.size → apartB (L j) (L i) = true ∨ softB c.moveT ops i j = true ∨ befB ops i 8 j = true) : ∀ (l : List Oper) (k : Nat) (listed : Array Bool) (s : St), (∀ j, l[j]? = ops[k + j]?) →
    listed.size = ops.size → (∀ j, j < ops.size → listed.getD j true = decide (j < k) ∧ listed.getD j false = decide (j < k)) → ChainL c I nt ops L fin l k s → AAny c I nt ops L fin l.length listed s
  | [], k, listed, s, hl, hsz, hls, h => by
    refine ⟨?_, by cases h; exact ⟨rfl, rfl⟩⟩
    rw [List.eq_nil_iff_forall_not_mem]
    intro j hj
    obtain ⟨hun, o, ho, _⟩ := mem_ready.1 hj
    have hlt : j < ops.size := (Array.getElem?_eq_some_iff.1 ho).1
    have hk : ops.size ≤ k := by
      have := hl 0
      simp only [List.getElem?_nil, Nat.add_zero] at this
      exact Array.getElem?_eq_none_iff.1 this.symm
    have := (hls j hlt).1
    rw [hun] at this
    have : decide (j < k) = true := by simp; omega
    simp_all
  | o :: l, k, listed, s, hl, hsz, hls, h => by
    obtain ⟨s1, h1, h2⟩ := h
    have h0 : ops[k]? = some o := by simpa using (hl 0).symm
    have hk : k < ops.size := (Array.getElem?_eq_some_iff.1 h0).1
    obtain ⟨d1, d2⟩ := drawOk_spec hd
    refine AAny.first h0 l.length listed s s1 ?_ ?_ ?_ h1 ?_
    · intro j hj oj hoj e he hb
      have hlt : j < ops.size := (Array.getElem?_eq_some_iff.1 hoj).1
      have hlj := (hls j hlt).2
      rw [hj] at hlj
      have hjk : j < k := by simpa using hlj.symm
      have := d1 j oj hoj e he hb
      rw [(hls e.on (by omega)).2]; simp; omega
    · intro j oj hoj hjk hun
      have hlt : j < ops.size := (Array.getElem?_eq_some_iff.1 hoj).1
      have := (hls j hlt).1
      rw [hun] at this
      have hkj : k < j := by have : ¬ j < k := by simpa using this.symm
                             omega
      rcases d2 k j o oj h0 hoj hkj with h3 | h3
      · rcases hL k j hkj hlt with h4 | h4 | h4
        · exact .inl ⟨h3, .inl h4⟩
        · exact .inl ⟨h3, .inr (by unfold softB at h4; rw [h0, hoj] at h4; exact h4)⟩
        · exact .inr h4
      · exact .inr h3
    · refine mem_ready.2 ⟨by rw [(hls k hk).1]; simp, o, h0, fun e he hb => ?_⟩
      have := d1 k o h0 e he hb
      rw [(hls e.on (by omega)).2]; simpa using this
    · refine lex_any hd hL l (k + 1) _ s1 (fun j => by have := hl (j + 1); simpa [Nat.add_assoc, Nat.add_comm 1 j] using this) (by simpa using hsz) ?_ h2
      intro j hj
      by_cases hkj : k = j
      · subst hkj
        have : (listed.setIfInBounds k true)[k]? = some true := by
          rw [Array.getElem?_setIfInBounds_self_of_lt (by omega)]
        simp [this]
      · rw [getD_set_ne true hkj, getD_set_ne false hkj, (hls j hj).1, (hls j hj).2]
        have : (j < k) ↔ (j < k + 1) := by omega
        simp [this]

end
end Go.Proofs.R

/- What is told of a region is so. -/
namespace Go.Proofs.R
open Go

section
variable {P : Program} {c : Ctx} {I : Interp c} {nt : Nat} {ops : Array Oper}

theorem putS_some {dst : Option Nat} {a : AV} {σ σ' : List (Nat × AV)} (h : putS nt dst a σ = some σ') : (∀ d, dst = some d → d < nt) ∧ lkp σ' = putF dst a (lkp σ) := by
  unfold putS at h
  cases dst with
  | none => cases h; exact ⟨by simp, rfl⟩
  | some d =>
    simp only at h
    cases hb : Nat.blt d nt with
    | false => rw [hb] at h; cases h
    | true =>
      rw [hb] at h; cases h
      refine ⟨?_, ?_⟩
      · intro e he; cases he; exact Nat.le_of_ble_eq_true hb
      · funext t; rw [lkp_cons]; rfl

theorem stepOp_some {ρ : Type} {st : St} {i : Nat} {o : Oper} {K : St → Log → Option ρ} {r : ρ} (h : stepOp c I nt st i o K = some r) :
    ∃ st' x, Did c I o st x st' ∧ x.i = i ∧ (∀ d, o.dst = some d → d < nt) ∧ K st' x = some r := by
  unfold stepOp at h
  rw [opC_nat] at h
  simp only [Option.bind_eq_some_iff] at h
  obtain ⟨⟨av, u⟩, h1, h⟩ := h
  simp only at h
  cases hb : updOk st.O (namesAt st.σ st.O o) (o.dst.getD noSlot) u with
  | false => rw [hb] at h; cases h
  | true =>
    rw [hb] at h; simp only [cond_true] at h
    split at h
    · rename_i σ' hσ
      obtain ⟨h2, h3⟩ := putS_some hσ
      exact ⟨_, _, ⟨av, u, h1, hb, h3, (over_lkp _ _).symm, rfl, rfl⟩, rfl, h2, h⟩
    · cases h

theorem Did.eqv {o : Oper} {s t s' : St} {x : Log} (he : Eqv s t) (h : Did c I o s x s') : Did c I o t x s' := by
  obtain ⟨av, u, _, h2, h3, h4⟩ := h.at (t := t) (fun d _ => by rw [he.1]) (fun n _ => by rw [he.2]) (fun n _ h0 => by rw [← he.2]; exact h0)
  exact h4 s' (by rw [← he.1]; exact h2) (by rw [← he.2]; exact h3)

def Chain (c : Ctx) (I : Interp c) (nt : Nat) (ops : Array Oper) (fin : St) : List (Oper × Nat) → List Log → St → Prop
  | [], [], st => st = fin
  | (o, i) :: r, x :: xs, st => x.i = i ∧ ∃ st', AStep c I nt ops o st x st' ∧ Chain c I nt ops fin r xs st'
  | _, _, _ => False

def okB (mt : List TypeId) (ops : Array Oper) (x y : Log) : Prop := apartB x y = true ∨ softB mt ops y.i x.i = true ∨ befB ops y.i 8 x.i = true
def OkL (mt : List TypeId) (ops : Array Oper) : List Log → List Log → Prop
  | _, [] => True
  | log, x :: xs => (∀ y ∈ log, okB mt ops x y) ∧ OkL mt ops (x :: log) xs

theorem OkL.more {y : Log} (h1 : y.ns = []) (h2 : y.ws = []) : ∀ {xs log log' : List Log}, (∀ z ∈ log', z ∈ log ∨ z = y) → OkL c.moveT ops log xs → OkL c.moveT ops log' xs
  | [], _, _, _, _ => trivial
  | x :: xs, log, log', hl, h => by
    refine ⟨?_, OkL.more h1 h2 (xs := xs) ?_ h.2⟩
    · intro z hz
      rcases hl z hz with hz | rfl
      · exact h.1 z hz
      · left
        simp only [apartB, Bool.and_eq_true, disjB_iff, h1, h2]
        simp
    · intro z hz
      rcases List.mem_cons.1 hz with rfl | hz
      · exact .inl List.mem_cons_self
      · exact (hl z hz).imp (List.mem_cons_of_mem _) id

theorem okLog_spec {x : Log} : ∀ {log : List Log}, okLog c.moveT ops x log = true → ∀ y ∈ log, okB c.moveT ops x y
  | [], _, y, hy => by cases hy
  | z :: log, h, y, hy => by
    simp only [okLog, Bool.and_eq_true, Bool.or_eq_true] at h
    rcases List.mem_cons.1 hy with rfl | hy
    · exact h.1
    · exact okLog_spec h.2 y hy

theorem evalOps_chain {ρ : Type} {dr : Bool} {r : ρ} : ∀ {L : List (Oper × Nat)} {st : St} {log : List Log} {K : St → Option ρ}, evalOps c I nt dr ops L st log K = some r →
    ∃ fin xs, Chain c I nt ops fin L xs st ∧ (dr = true → OkL c.moveT ops log xs) ∧ K fin = some r
  | [], st, log, K, h => ⟨st, [], rfl, fun _ => trivial, h⟩
  | (o, i) :: L, st, log, K, h => by
    simp only [evalOps] at h
    split at h
    · rename_i hg
      obtain ⟨st', x, h1, h2, h3, h4⟩ := stepOp_some h
      cases hb : (!dr || okLog c.moveT ops x log) with
      | false => rw [hb] at h4; cases h4
      | true =>
        rw [hb] at h4; simp only [cond_true] at h4
        obtain ⟨fin, xs, h5, h6, h7⟩ := evalOps_chain h4
        refine ⟨fin, x :: xs, ⟨h2, st', ⟨h3, .inl ⟨?_, h1⟩⟩, h5⟩, fun hd => ⟨okLog_spec (by rw [hd] at hb; simpa using hb), h6 hd⟩, h7⟩
        unfold WantA; rw [hg]
    · rename_i j want hg
      split at h
      · rename_i dj g hq
        simp only [Option.bind_eq_some_iff, Option.some.injEq, Prod.mk.injEq] at hq
        obtain ⟨dj', hd, a, ha, rfl, rfl⟩ := hq
        have he : Eqv ⟨(dj', .one (.v .bool g)) :: st.σ, st.O⟩ st := by
          refine ⟨?_, rfl⟩
          funext t
          show lkp ((dj', _) :: st.σ) t = _
          rw [lkp_cons]; split
          · rename_i e; subst e; exact ha.symm
          · rfl
        have hw : WantA ops o st (g == want) := by
          unfold WantA; rw [hg]; exact ⟨dj', Option.bind_eq_some_iff.2 hd, .inl ⟨g, ha, rfl⟩⟩
        have key : (bif (g == want) then stepOp c I nt ⟨(dj', .one (.v .bool g)) :: st.σ, st.O⟩ i o fun st' x => bif !dr || okLog c.moveT ops x log then evalOps c I nt dr ops L st' (x :: log) K else none
          else match putS nt o.dst (.tup []) ((dj', .one (.v .bool g)) :: st.σ) with
            | some σ' => evalOps c I nt dr ops L ⟨σ', st.O⟩ log K
            | none => none) = some r := by
          cases g <;> exact h
        cases hgw : (g == want) with
        | true =>
          rw [hgw] at key hw; simp only [cond_true] at key
          obtain ⟨st', x, h1, h2, h3, h4⟩ := stepOp_some key
          cases hb : (!dr || okLog c.moveT ops x log) with
          | false => rw [hb] at h4; cases h4
          | true =>
            rw [hb] at h4; simp only [cond_true] at h4
            obtain ⟨fin, xs, h5, h6, h7⟩ := evalOps_chain h4
            exact ⟨fin, x :: xs, ⟨h2, st', ⟨h3, .inl ⟨hw, h1.eqv he⟩⟩, h5⟩, fun hd => ⟨okLog_spec (by rw [hd] at hb; simpa using hb), h6 hd⟩, h7⟩
        | false =>
          rw [hgw] at key hw; simp only [cond_false] at key
          split at key
          · rename_i σ' hσ
            obtain ⟨h2, h3⟩ := putS_some hσ
            obtain ⟨fin, xs, h5, h6, h7⟩ := evalOps_chain key
            refine ⟨fin, ⟨i, [], []⟩ :: xs, ⟨rfl, ⟨σ', st.O⟩, ⟨h2, .inr ⟨hw, ⟨?_, rfl, rfl, rfl⟩⟩⟩, h5⟩, fun hd => ⟨?_, ?_⟩, h7⟩
            · rw [h3, he.1]
            · intro y _
              left
              simp [apartB, disjB_iff, disjB]
            · exact OkL.more rfl rfl (fun z hz => (List.mem_cons.1 hz).symm) (h6 hd)
          · cases key
      · rename_i dj hq
        simp only [Option.bind_eq_some_iff, Option.some.injEq, Prod.mk.injEq] at hq
        obtain ⟨dj', hd, a, ha, rfl, rfl⟩ := hq
        have hw : WantA ops o st false := by
          unfold WantA; rw [hg]; exact ⟨dj', Option.bind_eq_some_iff.2 hd, .inr ⟨ha, rfl⟩⟩
        split at h
        · rename_i σ' hσ
          obtain ⟨h2, h3⟩ := putS_some hσ
          obtain ⟨fin, xs, h5, h6, h7⟩ := evalOps_chain h
          refine ⟨fin, ⟨i, [], []⟩ :: xs, ⟨rfl, ⟨σ', st.O⟩, ⟨h2, .inr ⟨hw, ⟨h3, rfl, rfl, rfl⟩⟩⟩, h5⟩, fun hd => ⟨?_, ?_⟩, h7⟩
          · intro y _
            left
            simp [apartB, disjB_iff, disjB]
          · exact OkL.more rfl rfl (fun z hz => (List.mem_cons.1 hz).symm) (h6 hd)
        · cases h
      · cases h

theorem Chain.len {fin : St} : ∀ {L : List (Oper × Nat)} {xs : List Log} {st : St}, Chain c I nt ops fin L xs st → xs.length = L.length
  | [], [], _, _ => rfl
  | _ :: L, _ :: xs, _, ⟨_, _, _, h⟩ => by simp [Chain.len h]
  | [], _ :: _, _, h => by simp [Chain] at h
  | _ :: _, [], _, h => by simp [Chain] at h

theorem Chain.idx {fin : St} : ∀ {l : List Oper} {k : Nat} {xs : List Log} {st : St}, Chain c I nt ops fin (l.zipIdx k) xs st → ∀ j x, xs[j]? = some x → x.i = k + j
  | [], _, [], _, _, j, x, hx => by simp at hx
  | [], _, _ :: _, _, h, _, _, _ => by simp [Chain] at h
  | _ :: _, _, [], _, _, j, x, hx => by simp at hx
  | o :: l, k, y :: xs, st, h, j, x, hx => by
    rw [List.zipIdx_cons] at h
    obtain ⟨h1, st', _, h2⟩ := h
    cases j with
    | zero => simp at hx; subst hx; simpa using h1
    | succ j => rw [Chain.idx h2 j x (by simpa using hx)]; omega

theorem Chain.toL {fin : St} {XS : List Log} : ∀ {l : List Oper} {k : Nat} {xs : List Log} {st : St}, Chain c I nt ops fin (l.zipIdx k) xs st → (∀ j, xs[j]? = XS[k + j]?) → ChainL c I nt ops (fun j => (XS[j]?).getD ⟨0, [], []⟩) fin l k st
  | [], _, [], _, h, _ => h
  | [], _, _ :: _, _, h, _ => by simp [Chain] at h
  | _ :: _, _, [], _, h, _ => by simp [Chain] at h
  | o :: l, k, y :: xs, st, h, hx => by
    rw [List.zipIdx_cons] at h
    obtain ⟨h1, st', h3, h2⟩ := h
    refine ⟨st', ?_, Chain.toL h2 (fun j => by have := hx (j + 1); simpa [Nat.add_assoc, Nat.add_comm 1 j] using this)⟩
    have := hx 0
    simp only [List.getElem?_cons_zero, Nat.add_zero] at this
    show AStep c I nt ops o st ((XS[k]?).getD ⟨0, [], []⟩) st'
    rw [← this]; exact h3

theorem OkL.pair : ∀ {xs log : List Log}, OkL c.moveT ops log xs → (∀ y ∈ log, ∀ (j : Nat) (x : Log), xs[j]? = some x → okB c.moveT ops x y) ∧ ∀ (i j : Nat) (x y : Log), i < j → xs[i]? = some y → xs[j]? = some x → okB c.moveT ops x y
  | [], _, _ => ⟨fun _ _ _ _ h => by simp at h, fun _ _ _ _ _ h => by simp at h⟩
  | z :: xs, log, h => by
    obtain ⟨h1, h2⟩ := OkL.pair h.2
    refine ⟨?_, ?_⟩
    · intro y hy j x hx
      cases j with
      | zero => simp at hx; subst hx; exact h.1 y hy
      | succ j => exact h1 y (List.mem_cons_of_mem _ hy) j x (by simpa using hx)
    · intro i j x y hij hy hx
      cases j with
      | zero => omega
      | succ j =>
        cases i with
        | zero => simp at hy; subst hy; exact h1 z List.mem_cons_self j x (by simpa using hx)
        | succ i => exact h2 i j x y (by omega) (by simpa using hy) (by simpa using hx)

/-! ### in memory -/
theorem size_put {a : Act} {d : Option Nat} {v : Value} : (a.put d v).tmps.size = a.tmps.size := by
  cases d <;> simp [Act.put]
theorem defers_put {a : Act} {d : Option Nat} {v : Value} : (a.put d v).defers = a.defers := by
  cases d <;> rfl

theorem Slots.put {p : RP} {σ : Nat → Option AV} {a : Act} {d : Option Nat} {av : AV} {v : Value} (hs : Slots p σ a.tmps) (hd : ∀ e, d = some e → e < a.tmps.size) (hv : RelAV p av v) : Slots p (putF d av σ) (a.put d v).tmps := by
  intro e x he
  cases d with
  | none => exact hs e x he
  | some d =>
    have hlt := hd d rfl
    unfold putF upd at he
    simp only at he
    split at he
    · rename_i e1; subst e1; cases he
      simp [Act.put, hlt]; exact hv
    · rename_i hne
      have := hs e x he
      simpa [Act.put, Array.getElem?_setIfInBounds_ne (Ne.symm hne)] using this

theorem updOk_new {O : List (Nat × AObj)} {ns : List Nat} {d : Nat} : ∀ {u : Upd}, updOk O ns d u = true → ∀ n o', (n, o') ∈ u → n / 8 = d → n % 8 < 5 → lkp O n = none
  | [], _, _, _, h, _, _ => by cases h
  | (m, x) :: u, hu, n, o', h, h1, h2 => by
    simp only [updOk, Bool.and_eq_true] at hu
    rcases List.mem_cons.1 h with h | h
    · have e : n = m := congrArg Prod.fst h
      rw [e] at h1 h2 ⊢
      have h3 : Nat.beq (m / 8) d = true := by rw [h1]; simp
      have h4 : Nat.blt (m % 8) 5 = true := Nat.ble_eq_true_of_le h2
      have := hu.1.1
      rw [h3, h4] at this
      simpa using this
    · exact updOk_new hu.2 n o' h h1 h2

theorem yielded_of {p : RP} {a : Act} {σ : Nat → Option AV} (hs : Slots p σ a.tmps) {j dj : Nat} {g : Bool} (h1 : (ops[j]?).bind (·.dst) = some dj) (h2 : σ dj = some (.one (.v .bool g))) : yielded ops a.tmps j = some g := by
  have := rel_bool (hs _ _ h2)
  unfold yielded
  rw [h1]
  simp only [Option.bind_some]
  cases ht : a.tmps[dj]? with
  | none => simp [ht, undef] at this
  | some v => simp [ht] at this; subst this; rfl

theorem yielded_tup {p : RP} {a : Act} {σ : Nat → Option AV} (hs : Slots p σ a.tmps) {j dj : Nat} (h1 : (ops[j]?).bind (·.dst) = some dj) (h2 : σ dj = some (.tup [])) : yielded ops a.tmps j = none := by
  obtain ⟨ws, h3, h4⟩ := hs _ _ h2
  unfold yielded
  rw [h1]
  simp only [Option.bind_some]
  cases ht : a.tmps[dj]? with
  | none => rfl
  | some v => simp [ht] at h3; subst h3; rfl

theorem step_ok (hE : EnvOk P c) (hI : Snd P c I) {F : Fr} {s s' : St} {x : Log} {o : Oper} {i : Nat} {a : Act} {w : World} {K : Act → World → Prop} {Q : Exit → Act → World → Prop} (h : AStep c I nt ops o s x s') (hi : ops[i]? = some o) (hg : Good F nt s a w)
    (hK : ∀ a' w', Good F nt s' a' w' → K a' w') : wpOp P ops Q i K a w := by
  obtain ⟨hd, h⟩ := h
  obtain ⟨S, β, Om, hc, hs, hvw, hfl, hsz, hdf⟩ := hg
  have hwant : ∀ b, WantA ops o s b → Region.wanted o (yielded ops a.tmps) = b := by
    intro b hw
    unfold WantA at hw
    unfold Region.wanted
    split at hw
    · rename_i hg; rw [hg, hw]
    · rename_i j want hg
      obtain ⟨dj, h1, h2⟩ := hw
      rw [hg]
      rcases h2 with ⟨g, h2, rfl⟩ | ⟨h2, rfl⟩
      · simp only [yielded_of hs h1 h2]
        cases g <;> cases want <;> rfl
      · simp only [yielded_tup hs h1 h2]
        rfl
  unfold wpOp
  simp only [hi]
  rcases h with ⟨hw, h⟩ | ⟨hw, h⟩
  · rw [if_pos (hwant _ hw)]
    left
    obtain ⟨av, u, h1, h2, h3, h4, _, _⟩ := h.did
    refine opC_sound hE hI hc hs (lk := lookIn s.O (namesAt s.σ s.O o)) ?_ ?_ h1 (fun n o' hm e1 e2 => hvw.none (updOk_plain h2 n o' hm).2.2 (updOk_new h2 n o' hm e1 e2)) ?_
    · intro n o' hl
      unfold lookIn at hl
      cases hb : memB (namesAt s.σ s.O o) n with
      | false => rw [hb] at hl; cases hl
      | true => rw [hb] at hl; exact hvw.at hl
    · intro n o' hl
      unfold lookIn at hl
      cases hb : memB (namesAt s.σ s.O o) n with
      | false => rw [hb] at hl; cases hl
      | true => exact memB_iff.1 hb
    · intro S' β' w' v hc' le hv
      refine hK _ _ ⟨S', β', _, hc', ?_, by rw [h4]; exact hvw.over (updOk_plain h2), by rw [h4]; exact hfl.over fun n o hm => (updOk_plain h2 n o hm).2.1, by rw [size_put, hsz], by rw [defers_put, hdf]⟩
      rw [h3]
      exact (hs.le le).put (fun e he => by rw [hsz]; exact hd e he) hv
  · rw [hwant _ hw]
    simp only [Bool.false_eq_true, if_false]
    refine hK _ _ ⟨S, β, Om, hc, ?_, by rw [h.O]; exact hvw, by rw [h.O]; exact hfl, by rw [size_put, hsz], by rw [defers_put, hdf]⟩
    rw [h.σ]
    exact hs.put (fun e he => by rw [hsz]; exact hd e he) ⟨#[], rfl, rfl⟩

theorem any_ok (hE : EnvOk P c) (hI : Snd P c I) {F : Fr} {L : Nat → Log} {fin : St} {Q : Exit → Act → World → Prop} (hQ : ∀ a w, Good F nt fin a w → Q .normal a w) : ∀ (fuel : Nat) (listed : Array Bool) (s : St) (a : Act) (w : World), AAny c I nt ops L fin fuel listed s → Good F nt s a w →
    wpAny P .any ops Q fuel listed a w
  | 0, _, _, _, _, h, hg => ⟨h.1, hQ _ _ (hg.eqv h.2)⟩
  | fuel + 1, listed, s, a, w, h, hg => by
    refine ⟨fun h0 => hQ _ _ (hg.eqv (h.1 h0)), fun i hi => ?_⟩
    obtain ⟨_, o, ho, _⟩ := mem_ready.1 hi
    obtain ⟨s', h1, h2⟩ := h.2 i hi o ho
    exact step_ok hE hI h1 ho hg (fun a' w' hg' => any_ok hE hI hQ fuel _ s' a' w' h2 hg')

theorem chain_ok (hE : EnvOk P c) (hI : Snd P c I) {F : Fr} {fin : St} {Q : Exit → Act → World → Prop} (hQ : ∀ a w, Good F nt fin a w → Q .normal a w) : ∀ (l : List Oper) (k : Nat) (xs : List Log) (s : St) (a : Act) (w : World), (∀ j, l[j]? = ops[k + j]?) → Chain c I nt ops fin (l.zipIdx k) xs s → Good F nt s a w →
    wpOps P ops Q (List.range' k l.length) a w
  | [], k, [], s, a, w, _, h, hg => by cases h; exact hQ _ _ hg
  | [], _, _ :: _, _, _, _, _, h, _ => by simp [Chain] at h
  | _ :: _, _, [], _, _, _, _, h, _ => by simp [Chain] at h
  | o :: l, k, x :: xs, s, a, w, hl, h, hg => by
    rw [List.zipIdx_cons] at h
    obtain ⟨_, s', h1, h2⟩ := h
    rw [List.length_cons, List.range'_succ, wpOps_cons]
    have h0 : ops[k]? = some o := by simpa using (hl 0).symm
    exact step_ok hE hI h1 h0 hg (fun a' w' hg' => chain_ok hE hI hQ l (k + 1) xs s' a' w' (fun j => by have := hl (j + 1); simpa [Nat.add_assoc, Nat.add_comm 1 j] using this) h2 hg')

/-- a walk's step over a map, whichever entry the tape says -/
theorem nextMap_ok (hE : EnvOk P c) {F : Fr} {s : St} {a : Act} {w : World} {o : Oper} {it : Operand} (ho : o.op = .next it false) {Kn : Act → World → Prop} {Q : Exit → Act → World → Prop} {ρ : Type} {r : ρ} {K : St → Option ρ}
    (h : nextMap c nt s it o.dst K = some r) (hg : Good F nt s a w) (hK : ∀ s' a' w', Good F nt s' a' w' → K s' = some r → Kn a' w') : o.wp P a w Kn Q := by
  obtain ⟨S, β, Om, hc, hs, hvw, hfl, hsz, hdf⟩ := hg
  unfold nextMap at h
  split at h
  case h_2 => cases h
  rename_i n hit
  split at h
  case h_2 => cases h
  rename_i m k seen hO
  split at h
  case h_2 => cases h
  rename_i kT eT t u l hM
  cases hb : plainK t && scal u with
  | false => rw [hb] at h; cases h
  | true =>
  rw [hb] at h; simp only [cond_true] at h
  simp only [Bool.and_eq_true] at hb
  obtain ⟨hlen, hmore, hdone⟩ := eachB_some.1 h
  have hO0 := hO
  have hO : Om n = some (.miter (.mp m) k seen) := hvw.at (by rw [hO0]; rfl)
  have hM : Om m = some (.mp kT eT t u l) := hvw.at (by rw [hM]; rfl)
  obtain ⟨b, bm, h1, h2, h3⟩ := hc.obj n _ hO
  obtain ⟨bm', es, clock, h4, h5, hent, hclk, hborn⟩ := hc.obj m _ hM
  unfold RelL at h3
  rw [show (F.rp S β Om w).O m = some (.mp kT eT t u l) from hM] at h3
  obtain ⟨bm2, h6, h7⟩ := h3
  simp only [List.cons.injEq, Value.map.injEq, Option.some.injEq, and_true] at h7
  subst h7
  rw [h4] at h6; simp only [Option.some.injEq, Prod.mk.injEq, and_true] at h6; subst h6
  simp only [Fr.rp] at h1 h2 h4 h5
  have hv := gv_rel hE hs hit
  rcases hv with hv | hv
  · cases hv
  unfold RelL at hv
  rw [show (F.rp S β Om w).O n = some (.miter (.mp m) k seen) from hO] at hv
  obtain ⟨b', hb', hv⟩ := hv
  simp only [Fr.rp] at hb'
  rw [h1] at hb'; simp only [Option.some.injEq, Prod.mk.injEq, and_true] at hb'; subst hb'
  simp only [List.cons.injEq, and_true] at hv
  have hel : es.size = l.length := by
    have := congrArg List.length hent
    simpa using this
  have hcl : clock = k := by omega
  subst hcl
  have hold : ∀ x ∈ es.toList, x.born < clock := by
    intro x hx
    obtain ⟨j, hj⟩ := List.mem_iff_getElem?.1 hx
    have hj : es[j]? = some x := by simpa using hj
    have := hborn j x hj
    have := (Array.getElem?_eq_some_iff.1 hj).1
    omega
  rcases run_next_at (P := P) w o.type b bm' clock clock seen.toArray es clock h2 h5 hold (Nat.le_refl _) with ⟨h8, h9⟩ | ⟨e, he, w1, hw1, h9⟩
  · have hno : ¬ ∃ j, j < clock ∧ j ∉ seen := by
      rintro ⟨j, hj, hjs⟩
      have hj' : j < es.size := by omega
      have hm : es[j] ∈ leftOf es seen.toArray := by
        unfold leftOf
        rw [Array.mem_filter]
        refine ⟨Array.getElem_mem hj', ?_⟩
        rw [hborn j _ (Array.getElem?_eq_getElem hj')]
        simpa using hjs
      rw [Array.eq_empty_of_size_eq_zero h8] at hm
      simp at hm
    have hd := hdone hno
    split at hd
    · rename_i σ' hσ
      obtain ⟨g1, g2⟩ := putS_some hσ
      refine wp_value (v := .tuple #[.bool false]) (w' := w) ?_ (hK ⟨σ', s.O⟩ _ _ ⟨S, β, Om, hc, ?_, hvw, hfl, by rw [size_put, hsz], by rw [defers_put, hdf]⟩ hd)
      · simp [execOp, ho, hv, h9]
      · rw [g2]
        exact hs.put (fun e he => by rw [hsz]; exact g1 e he) ⟨_, rfl, _, _, rfl, ⟨_, rfl, .inr rfl⟩, rfl⟩
    · cases hd
  · unfold leftOf at he
    simp only [Array.toList_filter, List.mem_filter] at he
    obtain ⟨he1, he2⟩ := he
    obtain ⟨j, hj⟩ := List.mem_iff_getElem?.1 he1
    have hj' : es[j]? = some e := by simpa using hj
    have hbj := hborn j e hj'
    have hjl : j < l.length := by
      have := (Array.getElem?_eq_some_iff.1 hj').1
      omega
    have hjs : j ∉ seen := by
      rw [← hbj]; simpa using he2
    have hx : l[j]? = some l[j] := List.getElem?_eq_getElem hjl
    have hkv : some e.key = plainV t l[j].1 ∧ some e.val = plainV u l[j].2 := by
      have := congrArg (fun q => q[j]?) hent
      simp only [List.getElem?_map, hj, hx, Option.map_some, Option.some.injEq, Prod.mk.injEq] at this
      exact this
    have hd := hmore ⟨j, by omega, hjs⟩ j _ hx hjs
    split at hd
    · rename_i σ' hσ
      obtain ⟨g1, g2⟩ := putS_some hσ
      have hw2 : ∃ dn, w.drawn ≤ dn ∧ w1 = { w with drawn := dn } := by
        rcases hw1 with rfl | rfl
        · exact ⟨w1.drawn, Nat.le_refl _, rfl⟩
        · exact ⟨_, Nat.le_succ _, rfl⟩
      obtain ⟨dn, hdn, rfl⟩ := hw2
      obtain ⟨c1, l1⟩ := hc.redrawn dn hdn
      obtain ⟨c2, l2⟩ := c1.writeObj hO rfl (o' := .miter (.mp m) clock (seenAdd seen j)) (.inr ⟨_, _, _, rfl⟩) rfl h1 (by intro e t xs hh; cases hh) (by intro e t xs hh; cases hh) (.mapIter (some bm') clock (seen.toArray.push e.born) clock) (by
        intro q le hqb hqw
        refine ⟨b, bm', by rw [hqb]; exact h1, ?_, ?_⟩
        · rw [hqw]
          have : (seenAdd seen j).toArray = seen.toArray.push e.born := by rw [hbj]; simp [seenAdd]
          rw [this]
          exact Array.getElem?_setIfInBounds_self_of_lt (Array.getElem?_eq_some_iff.1 h2).1
        · refine RelL_le le _ (RelL_le l1 _ ?_)
          unfold RelL
          rw [show (F.rp S β Om w).O m = some (.mp kT eT t u l) from hM]
          exact ⟨bm', h4, rfl⟩)
      refine wp_value (v := .tuple #[.bool true, e.key, e.val]) (w' := ChangeMaps.setBlock { w with drawn := dn } b (.mapIter (some bm') clock (seen.toArray.push e.born) clock)) ?_
        (hK ⟨σ', (n, .miter (.mp m) clock (seenAdd seen j)) :: s.O⟩ _ _ ⟨S, β, _, c2, ?_, ?_, ?_, by rw [size_put, hsz], by rw [defers_put, hdf]⟩ hd)
      · simp [execOp, ho, hv, h9]
      · show Slots _ (lkp σ') _
        rw [g2]
        refine ((hs.le l1).le l2).put (fun e he => by rw [hsz]; exact g1 e he) ⟨_, rfl, ?_⟩
        refine ⟨_, _, rfl, ⟨_, rfl, .inr rfl⟩, _, _, rfl, plain_leaves hb.1 hkv.1.symm, _, _, rfl, ⟨_, rfl, .inr ?_⟩, rfl⟩
        have hs2 := hkv.2.symm
        have hu := hb.2
        unfold RelL
        cases u <;> first | (simp only [plainV, Option.some.injEq] at hs2; rw [← hs2]; rfl) | cases hu
      · have h7 := hvw.over (u := [(n, AObj.miter (.mp m) clock (seenAdd seen j))]) (by
          intro q o' hq
          simp only [List.mem_cons, List.not_mem_nil, or_false, Prod.mk.injEq] at hq
          obtain ⟨rfl, rfl⟩ := hq
          exact ⟨by rw [hO0]; rfl, rfl, hvw.small _ _ hO0⟩)
        rw [over_lkp, over_cons, over_nil] at h7
        exact h7
      · have h7 := hfl.over (u := [(n, AObj.miter (.mp m) clock (seenAdd seen j))]) (by
          intro q o' hq
          simp only [List.mem_cons, List.not_mem_nil, or_false, Prod.mk.injEq] at hq
          obtain ⟨rfl, rfl⟩ := hq
          rfl)
        rw [over_lkp] at h7
        exact h7
    · cases hd

end
end Go.Proofs.R

