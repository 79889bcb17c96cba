/- The evaluator of the model's code over told values, and that what it tells is so: part 4. No condition. -/
import Derived.Test.YtpkckffbdojegaaMachine2
import Derived.Still
import Derived.Maps.RangeRun
set_option linter.unusedVariables false
set_option linter.unusedSimpArgs false
namespace Go.Proofs.R
open Go

section
variable {P : Program} {c : Ctx}
variable {F : Fr} {S : CellSet} {β : Nat → Place} {O : Nat → Option AObj} {w : World} {a : Act} {σ : List (Nat × AV)} {o : Oper} {next : Act → World → Prop} {Q : Exit → Act → World → Prop}

theorem ofList {α : Type} (a : Array α) (l : List α) (h : a.toList = l) : a = l.toArray := by
  cases a; simp at h; simp [h]

theorem calleeOf_rel {p : RP} (hs : Slots p (lkp σ) a.tmps) {x : Operand} {g : FuncId × List Lf} (h : calleeOf σ x = some g) : ∃ vs : Array Value, a.eval x = .func (.func g.1) #[] vs ∧ RelLs p g.2 vs.toList := by
  unfold calleeOf at h
  split at h
  · cases h; exact ⟨#[], rfl, rfl⟩
  · split at h
    · rename_i d f caps hd
      cases h
      rcases hs.tmp hd with h1 | ⟨vs, h1, h2⟩
      · cases h1
      · simp only [List.cons.injEq, and_true] at h1
        exact ⟨vs, h1, h2⟩
    · cases h
  · cases h

theorem opC_sound (hE : EnvOk P c) {I : Interp c} (hI : Snd P c I) (hc : Core F S β O w) (hs : Slots (F.rp S β O w) (lkp σ) a.tmps) {lk : Nat → Option AObj} {ns : List Nat} (hlk : ∀ n o, lk n = some o → O n = some o) (hns : ∀ n o, lk n = some o → n ∈ ns)
    {d : Nat} {av : AV} {u : Upd} (h : opC c I σ lk ns d o two = some (av, u)) (hnew : ∀ n o', (n, o') ∈ u → n / 8 = d → n % 8 < 5 → O n = none)
    (hn : After F S β O (over u O) w av o a next) : o.wp P a w next Q := by
  have hd8 : ∀ o', (d * 8, o') ∈ u → O (d * 8) = none := fun o' hm => hnew _ o' hm (by omega) (by omega)
  unfold opC at h
  split at h
  · -- move
    rename_i x hx
    simp only [Option.bind_eq_some_iff, two, Option.some.injEq, Prod.mk.injEq] at h
    obtain ⟨v, h1, rfl, rfl⟩ := h
    exact move_ok hE hc hs (.inl hx) h1 hn
  · rename_i x hx
    simp only [Option.bind_eq_some_iff, two, Option.some.injEq, Prod.mk.injEq] at h
    obtain ⟨v, h1, rfl, rfl⟩ := h
    exact move_ok hE hc hs (.inr hx) h1 hn
  · -- pick
    rename_i x y z ho
    split at h
    · rename_i g hg
      split at h
      · rename_i t p u' q hp hq
        simp only [Option.bind_eq_some_iff, two, Option.some.injEq, Prod.mk.injEq] at h
        obtain ⟨q', h1, rfl, rfl⟩ := h
        obtain ⟨e, h2⟩ := castV_eq h1
        subst e
        refine pick_ok hE hc hs ho hg ?_ hn
        cases g with
        | true => exact gv_rel hE hs hp
        | false => have := gv_rel hE hs hq; simp only at h2; subst h2; exact this
      · cases g with
        | true =>
          simp only [ifB, cond_true, Option.bind_eq_some_iff, two, Option.some.injEq, Prod.mk.injEq] at h
          obtain ⟨v, h1, rfl, rfl⟩ := h
          exact pick_ok hE hc hs ho hg (gv_rel hE hs h1) hn
        | false =>
          simp only [ifB, cond_false, Option.bind_eq_some_iff, two, Option.some.injEq, Prod.mk.injEq] at h
          obtain ⟨v, h1, rfl, rfl⟩ := h
          exact pick_ok hE hc hs ho hg (gv_rel hE hs h1) hn
    · cases h
  · -- alloc
    rename_i T ho
    simp only [Option.bind_eq_some_iff, two, Option.some.injEq, Prod.mk.injEq] at h
    obtain ⟨te, h1, rfl, rfl⟩ := h
    exact alloc_ok hE hc ho h1 (hd8 _ List.mem_cons_self) hn
  · -- box
    rename_i T x ho
    simp only [Option.bind_eq_some_iff, two, Option.some.injEq, Prod.mk.injEq] at h
    obtain ⟨v, h1, ls, h2, rfl, rfl⟩ := h
    exact box_ok hE hc hs ho h1 h2 (hd8 _ List.mem_cons_self) hn
  · -- build
    rename_i T ps ho
    simp only [Option.bind_eq_some_iff] at h
    obtain ⟨te, h1, h⟩ := h
    split at h
    · rename_i fs _ hd
      simp only [Option.bind_eq_some_iff, two, Option.some.injEq, Prod.mk.injEq] at h
      obtain ⟨as, h2, ls, h3, rfl, rfl⟩ := h
      exact build_ok hE hc hs ho h1 hd h2 h3 hn
    · rename_i _ m e hd
      split at h
      · rename_i m' t zs hz
        simp only [Option.bind_eq_some_iff] at h
        obtain ⟨ee, h2, h⟩ := h
        cases hb : (Nat.beq m m' && Nat.beq ee.sz 1 && scal t) with
        | false => rw [hb] at h; cases h
        | true =>
          rw [hb, cond_true] at h
          simp only [Bool.and_eq_true] at hb
          simp only [Option.bind_eq_some_iff, two, Option.some.injEq, Prod.mk.injEq] at h
          obtain ⟨as, h3, qs, h4, rfl, rfl⟩ := h
          obtain rfl := beq_sz hb.1.1
          exact buildArr_ok hE hc hs ho h1 hd hz h2 (beq_sz hb.1.2) hb.2 h3 h4 hn
      · cases h
    · cases h
  · -- buildSlice
    rename_i T n ps ho
    simp only [Option.bind_eq_some_iff] at h
    obtain ⟨te, h1, h⟩ := h
    split at h
    · rename_i e t hd _
      cases hb : (eltOk c T t && Nat.ble (n * t.size) 16777216) with
      | false => rw [hb] at h; cases h
      | true =>
        rw [hb] at h
        rw [Bool.and_eq_true] at hb
        simp only [cond_true, Option.bind_eq_some_iff] at h
        obtain ⟨ee, h2, z, h3, as, h4, qs, h5, h⟩ := h
        cases hb2 : nodupB (qs.map (·.1)) with
        | false => rw [hb2] at h; cases h
        | true =>
          rw [hb2] at h
          simp only [cond_true, two, Option.some.injEq, Prod.mk.injEq] at h
          obtain ⟨rfl, rfl⟩ := h
          exact buildSlice_ok hE hc hs ho h1 hd hb.1 hb.2 h2 h3 h4 hlk h5 hb2 (hd8 _ List.mem_cons_self) hn
    · cases h
  · -- load
    rename_i T x ho
    simp only [Option.bind_eq_some_iff] at h
    obtain ⟨te, h1, p, h2, l, h3, h⟩ := h
    exact load_ok hE hc hs ho h1 h2 h3 hlk h hn
  · -- store
    rename_i T x y ho
    simp only [Option.bind_eq_some_iff] at h
    obtain ⟨te, h1, p, h2, l, h3, v, h4, h⟩ := h
    rw [storeOp_nat] at h
    simp only [Option.bind_eq_some_iff, two, Option.some.injEq, Prod.mk.injEq] at h
    obtain ⟨u', h5, rfl, rfl⟩ := h
    exact store_ok hE hc hs ho h1 h2 h3 h4 hlk h5 hn
  · -- nilCheck
    rename_i x ho
    simp only [Option.bind_eq_some_iff] at h
    obtain ⟨v, h1, h⟩ := h
    have hr := gv_rel hE hs h1
    have hbox : ∀ n off, aliveB lk (.ref n off) = true → ∃ T ls, O n = some (.box T ls) := by
      intro n off ha
      simp only [aliveB] at ha
      split at ha
      · rename_i T ls hl; exact ⟨T, ls, hlk _ _ hl⟩
      · cases ha
    split at h
    · rename_i n off
      cases hb : aliveB lk (.ref n off) with
      | false => rw [hb] at h; cases h
      | true =>
        rw [hb] at h; simp only [cond_true, two, Option.some.injEq, Prod.mk.injEq] at h; obtain ⟨rfl, rfl⟩ := h
        obtain ⟨T, ls, hO⟩ := hbox n off hb
        refine nilCheck_ok hE hc hs ho h1 (by intro e; cases e) ?_ hn
        rcases hr with hr | hr
        · cases hr
        · obtain ⟨b, _, e⟩ := ref_val hr ⟨T, ls, hO⟩
          exact .inl ⟨b, off, e⟩
    · simp only [two, Option.some.injEq, Prod.mk.injEq] at h; obtain ⟨rfl, rfl⟩ := h
      refine nilCheck_ok hE hc hs ho h1 (by intro e; cases e) ?_ hn
      rcases hr with hr | hr
      · cases hr
      · obtain ⟨b, o', ds, e, _⟩ := hr
        simp only [List.cons.injEq, and_true] at e
        exact .inl ⟨b, _, e⟩
    · rename_i n i off
      cases hb : aliveB lk (.eref n i off) with
      | false => rw [hb] at h; cases h
      | true =>
        rw [hb] at h; simp only [cond_true, two, Option.some.injEq, Prod.mk.injEq] at h; obtain ⟨rfl, rfl⟩ := h
        refine nilCheck_ok hE hc hs ho h1 (by intro e; cases e) ?_ hn
        rcases hr with hr | hr
        · cases hr
        · simp only [aliveB] at hb
          split at hb
          · rename_i e0 t xs fz hl
            unfold RelL at hr
            rw [show (F.rp S β O w).O n = some (.row e0 t xs fz) from hlk _ _ hl] at hr
            obtain ⟨b, o', _, _, _, e⟩ := hr
            simp only [List.cons.injEq, and_true] at e
            exact .inl ⟨b, _, e⟩
          · cases hb
    · simp only [two, Option.some.injEq, Prod.mk.injEq] at h; obtain ⟨rfl, rfl⟩ := h
      refine nilCheck_ok hE hc hs ho h1 (by intro e; cases e) ?_ hn
      rcases hr with hr | hr
      · cases hr
      · obtain ⟨vs, e, _⟩ := hr
        simp only [List.cons.injEq, and_true] at e
        exact .inr ⟨_, vs, e⟩
    · cases h
  · -- binOp
    rename_i op T x y U ho
    simp only [Option.bind_eq_some_iff] at h
    obtain ⟨p, h1, q, h2, h⟩ := h
    rw [binL_nat] at h
    simp only [Option.bind_eq_some_iff, two, Option.some.injEq, Prod.mk.injEq] at h
    obtain ⟨l, h3, rfl, rfl⟩ := h
    exact bin_ok hE hc hs ho h1 h2 h3 hn
  · -- unOp
    rename_i op T x ho
    simp only [Option.bind_eq_some_iff] at h
    obtain ⟨p, h1, h⟩ := h
    rw [unL_nat] at h
    simp only [Option.bind_eq_some_iff, two, Option.some.injEq, Prod.mk.injEq] at h
    obtain ⟨l, h3, rfl, rfl⟩ := h
    exact un_ok hE hc hs ho h1 h3 hn
  · -- convert
    rename_i s t x ho
    simp only [Option.bind_eq_some_iff] at h
    obtain ⟨es, h1, et, h2, v, h3, h⟩ := h
    split at h
    · rename_i k0 k k1 n e1 e2
      simp only [two, Option.some.injEq, Prod.mk.injEq] at h; obtain ⟨rfl, rfl⟩ := h
      exact conv_ok hE hc hs ho h1 h2 h3 (.inl ⟨_, _, _, _, e1, e2, rfl, rfl⟩) hn
    · rename_i n e1 e2
      simp only [two, Option.some.injEq, Prod.mk.injEq] at h; obtain ⟨rfl, rfl⟩ := h
      exact conv_ok hE hc hs ho h1 h2 h3 (.inr ⟨_, e1, e2, rfl, rfl⟩) hn
    · cases h
  · -- makeFunc
    rename_i f first caps ho
    cases hb : first.isEmpty with
    | false => rw [hb] at h; cases h
    | true =>
      rw [hb] at h
      simp only [cond_true, Option.bind_eq_some_iff, two, Option.some.injEq, Prod.mk.injEq] at h
      obtain ⟨as, h1, ls, h2, rfl, rfl⟩ := h
      exact makeFunc_ok hE hc hs ho hb h1 h2 hn
  · -- makeSlice
    rename_i T x y ho
    simp only [Option.bind_eq_some_iff] at h
    obtain ⟨te, h1, h⟩ := h
    split at h
    · rename_i e t hd _
      cases hb : eltOk c T t with
      | false => rw [hb] at h; cases h
      | true =>
        rw [hb] at h
        simp only [cond_true, Option.bind_eq_some_iff, bindD, two, Option.some.injEq, Prod.mk.injEq] at h
        obtain ⟨ee, h2, z, h3, p, h4, n, h5, q, h6, m, h7, len, h8, rfl, rfl⟩ := h
        exact makeSlice_ok hE hc hs ho h1 hd hb h2 h3 h4 h6 h5 h7 h8 (hd8 _ List.mem_cons_self) hn
    · rename_i e hd _
      simp only [Option.bind_eq_some_iff] at h
      obtain ⟨ee, h2, p, h4, n, h5, q, h6, m, h7, h⟩ := h
      cases hb : (decide (n = m) && decide (0 < n)) with
      | false => rw [hb] at h; cases h
      | true =>
        rw [hb] at h
        simp only [cond_true, bindD, two, Option.bind_eq_some_iff, Option.some.injEq, Prod.mk.injEq] at h
        obtain ⟨len, h8, rfl, rfl⟩ := h
        rw [Bool.and_eq_true] at hb
        exact makeTab_ok hE hc hs ho h1 hd h2 h4 h6 h5 h7 (of_decide_eq_true hb.1) (of_decide_eq_true hb.2) h8 (hd8 _ List.mem_cons_self) hn
    · cases h
  · -- slice
    rename_i T x lo hi mx ho
    cases mx with
    | some m => simp at h
    | none =>
      simp only [Option.isNone_none, cond_true, Option.bind_eq_some_iff] at h
      obtain ⟨v, h1, l, h2, lv, h3, hv, h4, h⟩ := h
      cases hmv : (memB c.moveT T && (hv.isNone || memB c.moveT (T + 1000000))) with
      | false => rw [hmv] at h; exact slice_ok hE hc hs ho h1 h2 h3 h4 hlk h hn
      | true =>
        rw [hmv, cond_true] at h
        exact move_ok2 hE hc hs ho h1 h2 h3 h4 hlk (d := d) hd8 h hn
  · -- fieldAddr
    rename_i T x f ho
    simp only [Option.bind_eq_some_iff] at h
    obtain ⟨te, h1, v, h2, l, h3, off, h4, l', h5, h⟩ := h
    cases hb : aliveB lk l with
    | false => rw [hb] at h; cases h
    | true =>
      rw [hb] at h; simp only [cond_true] at h
      split at h
      · rename_i fs hd
        simp only [two, Option.some.injEq, Prod.mk.injEq] at h; obtain ⟨rfl, rfl⟩ := h
        exact fieldAddr_ok hE hc hs ho h1 hd h2 h3 h4 h5 hlk hb hn
      · cases h
  · -- field
    rename_i T x f ho
    simp only [Option.bind_eq_some_iff] at h
    obtain ⟨te, h1, h⟩ := h
    split at h
    · rename_i fs hd
      simp only [Option.bind_eq_some_iff] at h
      obtain ⟨ft, h2, fe, h3, off, h4, v, h5, h⟩ := h
      split at h
      · simp only [Option.bind_eq_some_iff, two, Option.some.injEq, Prod.mk.injEq] at h
        obtain ⟨q, h6, r, h7, rfl, rfl⟩ := h
        exact field_ok hE hc hs ho h1 hd h2 h3 h4 h5 h6 h7 hn
      · cases h
    · cases h
  · -- indexAddr
    rename_i T x i ho
    simp only [Option.bind_eq_some_iff] at h
    obtain ⟨v, h1, l, h2, b, h3, n, h4, h⟩ := h
    exact indexAddr_ok hE hc hs ho h1 h2 h3 h4 hlk h hn
  · -- index
    rename_i T x i ho
    simp only [Option.bind_eq_some_iff] at h
    obtain ⟨v, h1, b, h3, n, h4, h⟩ := h
    split at h
    · rename_i s
      cases hb : strOk c T with
      | false => rw [hb] at h; cases h
      | true =>
        rw [hb] at h
        simp only [cond_true, bindD, Option.bind_eq_some_iff, two, Option.some.injEq, Prod.mk.injEq] at h
        obtain ⟨y, h5, rfl, rfl⟩ := h
        exact index_ok hE hc hs ho hb h1 h3 h4 h5 hn
    · cases h
  · -- extract
    rename_i x i ho
    simp only [Option.bind_eq_some_iff] at h
    obtain ⟨v, h1, h⟩ := h
    split at h
    · simp only [Option.bind_eq_some_iff, two, Option.some.injEq, Prod.mk.injEq] at h
      obtain ⟨q, h2, r, h3, rfl, rfl⟩ := h
      exact extract_ok hE hc hs ho h1 h2 h3 hn
    · cases h
  · -- range
    rename_i T x ho
    cases hb : strOk c T with
    | false =>
      rw [hb] at h
      simp only [cond_false, Option.bind_eq_some_iff] at h
      obtain ⟨v, h1, h⟩ := h
      split at h
      · unfold mapRange at h
        split at h
        · rename_i n' k e t u m hl
          cases hm : mapOk c T k e t u with
          | false => rw [hm] at h; cases h
          | true =>
            rw [hm] at h
            simp only [cond_true, two, Option.some.injEq, Prod.mk.injEq] at h
            obtain ⟨rfl, rfl⟩ := h
            exact mapRange_ok hE hc hs ho h1 (hlk _ _ hl) hm (hd8 _ List.mem_cons_self) hn
        · cases h
      · cases h
    | true =>
      rw [hb] at h
      simp only [cond_true, Option.bind_eq_some_iff] at h
      obtain ⟨v, h1, h⟩ := h
      split at h
      · simp only [two, Option.some.injEq, Prod.mk.injEq] at h
        obtain ⟨rfl, rfl⟩ := h
        exact range_ok hE hc hs ho hb h1 (hd8 _ List.mem_cons_self) hn
      · cases h
  · -- next
    rename_i x ho
    simp only [Option.bind_eq_some_iff] at h
    obtain ⟨v, h1, h⟩ := h
    split at h
    · split at h
      · rename_i s pos hl
        unfold ifB at h
        cases hp : decide (pos < s.size) with
        | true =>
          rw [hp] at h; simp only [cond_true, two, Option.some.injEq, Prod.mk.injEq] at h; obtain ⟨rfl, rfl⟩ := h
          exact next_ok hE hc hs ho h1 (hlk _ _ hl) (fun _ => hn) (fun hq => (hq (of_decide_eq_true hp)).elim)
        | false =>
          rw [hp] at h; simp only [cond_false, two, Option.some.injEq, Prod.mk.injEq] at h; obtain ⟨rfl, rfl⟩ := h
          exact next_ok hE hc hs ho h1 (hlk _ _ hl) (fun hq => (of_decide_eq_false hp hq).elim) (fun _ => hn)
      · cases h
    · cases h
  · -- entry
    rename_i x ho
    simp only [Option.bind_eq_some_iff] at h
    obtain ⟨v, h1, h⟩ := h
    split at h
    · unfold mapEntry at h
      split at h
      · rename_i m k seen hl
        split at h
        · rename_i kT eT t u l hm
          cases hb : plainK t && scal u with
          | false => rw [hb] at h; cases h
          | true =>
            rw [hb] at h
            simp only [cond_true, bindD, Option.bind_eq_some_iff, two, Option.some.injEq, Prod.mk.injEq] at h
            obtain ⟨e, he, rfl, rfl⟩ := h
            simp only [Bool.and_eq_true] at hb
            exact mapEntry_ok hE hc hs ho h1 (hlk _ _ hl) (hlk _ _ hm) hb.1 hb.2 he hn
        · cases h
      · cases h
    · cases h
  · -- makeMap
    rename_i T r ho
    cases hr : r.isNone with
    | false => rw [hr] at h; cases h
    | true =>
      rw [hr] at h
      simp only [cond_true] at h
      have hr' : r = none := by simpa using hr
      subst hr'
      unfold makeMapOp at h
      simp only [Option.bind_eq_some_iff] at h
      obtain ⟨te, h1, h⟩ := h
      split at h
      · simp only [Option.bind_eq_some_iff] at h
        obtain ⟨ke, h2, ve, h3, h⟩ := h
        split at h
        · simp only [two, Option.some.injEq, Prod.mk.injEq] at h
          obtain ⟨rfl, rfl⟩ := h
          exact makeMap_ok hE hc ho (hd8 _ List.mem_cons_self) hn
        · cases h
      · cases h
  · -- lookup
    rename_i T x i ok ho
    simp only [Option.bind_eq_some_iff] at h
    obtain ⟨v, h1, y, h2, h⟩ := h
    unfold lookupOp at h
    split at h
    · split at h
      · rename_i k e t u m hl
        cases hm : mapOk c T k e t u with
        | false => rw [hm] at h; cases h
        | true =>
          rw [hm] at h
          simp only [cond_true, Option.bind_eq_some_iff] at h
          obtain ⟨key, h3, ve, h4, z, h5, h⟩ := h
          cases ok with
          | true =>
            simp only [cond_true, two, Option.some.injEq, Prod.mk.injEq] at h; obtain ⟨rfl, rfl⟩ := h
            exact lookup_ok hE hc hs ho h1 h2 (hlk _ _ hl) hm h3 h4 h5 (fun _ => hn) (fun hq => by cases hq)
          | false =>
            simp only [cond_false, two, Option.some.injEq, Prod.mk.injEq] at h; obtain ⟨rfl, rfl⟩ := h
            exact lookup_ok hE hc hs ho h1 h2 (hlk _ _ hl) hm h3 h4 h5 (fun hq => by cases hq) (fun _ => hn)
      · cases h
    · cases h
  · -- mapEntry
    rename_i T x i ho
    simp only [Option.bind_eq_some_iff] at h
    obtain ⟨v, h1, k', h2, h⟩ := h
    unfold mapPlaceOp at h
    split at h
    · split at h
      · rename_i k e t u m hl
        cases hm : mapOk c T k e t u with
        | false => rw [hm] at h; cases h
        | true =>
          rw [hm] at h
          simp only [cond_true, Option.bind_eq_some_iff, two, Option.some.injEq, Prod.mk.injEq] at h
          obtain ⟨key, h4, ve, h5, z, h6, rfl, rfl⟩ := h
          exact mapPlace_ok hE hc hs ho h1 h2 (hlk _ _ hl) hm h4 h5 h6 hn
      · cases h
    · cases h
  · -- entryStore
    rename_i T x i y ho
    simp only [Option.bind_eq_some_iff] at h
    obtain ⟨v, h1, k', h2, vv, h3, h⟩ := h
    unfold mapStoreOp at h
    split at h
    · split at h
      · rename_i k e t u m hl
        cases hm : mapOk c T k e t u with
        | false => rw [hm] at h; cases h
        | true =>
          rw [hm] at h
          simp only [cond_true, bindD, Option.bind_eq_some_iff, two, Option.some.injEq, Prod.mk.injEq] at h
          obtain ⟨val, h4, m', h5, rfl, rfl⟩ := h
          exact mapStore_ok hE hc hs ho h1 h2 h3 (hlk _ _ hl) hm h4 h5 hn
      · cases h
    · cases h
  · -- insert
    rename_i T x i y ho
    simp only [Option.bind_eq_some_iff] at h
    obtain ⟨v, h1, k', h2, vv, h3, h⟩ := h
    unfold mapUpdOp at h
    split at h
    · split at h
      · rename_i k e t u m hl
        cases hm : mapOk c T k e t u with
        | false => rw [hm] at h; cases h
        | true =>
          rw [hm] at h
          simp only [cond_true, Option.bind_eq_some_iff, two, Option.some.injEq, Prod.mk.injEq] at h
          obtain ⟨key, h4, val, h5, rfl, rfl⟩ := h
          exact mapUpd_ok hE hc hs (.inr ho) h1 h2 h3 (hlk _ _ hl) hm h4 h5 hn
      · cases h
    · cases h
  · -- mapUpdate
    rename_i T x i y ho
    simp only [Option.bind_eq_some_iff] at h
    obtain ⟨v, h1, k', h2, vv, h3, h⟩ := h
    unfold mapUpdOp at h
    split at h
    · split at h
      · rename_i k e t u m hl
        cases hm : mapOk c T k e t u with
        | false => rw [hm] at h; cases h
        | true =>
          rw [hm] at h
          simp only [cond_true, Option.bind_eq_some_iff, two, Option.some.injEq, Prod.mk.injEq] at h
          obtain ⟨key, h4, val, h5, rfl, rfl⟩ := h
          exact mapUpd_ok hE hc hs (.inl ho) h1 h2 h3 (hlk _ _ hl) hm h4 h5 hn
      · cases h
    · cases h
  · -- builtins
    rename_i b as ts ho
    simp only [Option.bind_eq_some_iff] at h
    obtain ⟨vs, h1, h⟩ := h
    have hr := gvs_rel hE hs h1
    have hargs : (as.map a.eval).toList = as.toList.map a.eval := by simp
    split at h
    · -- len
      rename_i l T hts
      simp only [Option.bind_eq_some_iff, two, Option.some.injEq, Prod.mk.injEq] at h
      obtain ⟨n, h2, rfl, rfl⟩ := h
      obtain ⟨v1, r1, e, h3, h4⟩ := hr
      simp only [RelAVs] at h4; subst h4
      have hvl : l ≠ .undef := by rintro rfl; simp [lenOp] at h2
      have he : as.map a.eval = #[v1] := ofList _ _ (hargs.trans e)
      have ht : ts = #[T] := ofList _ _ hts
      refine pure_ok hc (v := .int .i64 n) ?_ (of_int _ _ _) hn
      have := len_run (P := P) (F := F) (S := S) (β := β) (w := w) hE hc hlk h2 (h3.resolve_left hvl) o.type
      simp [execOp, ho, Go.resolve, invoke, builtin, he, ht, this]
    · -- append
      rename_i s x T U hts
      cases hb : (slOk c U || strOk c U) with
      | false => rw [hb] at h; cases h
      | true =>
        rw [hb] at h; simp only [cond_true] at h
        obtain ⟨v1, r1, e, h3, v2, r2, e2, h4, h5⟩ := hr
        subst e2
        simp only [RelAVs] at h5; subst h5
        have he : as.map a.eval = #[v1, v2] := ofList _ _ (hargs.trans e)
        have ht : ts = #[T, U] := ofList _ _ hts
        obtain ⟨v, w', S', β', h6, h7, h8, h9⟩ := appendV_run hE hc hlk hb h3 h4 h (fun n o' hm h1 h2 => hnew n o' hm (by omega) (by omega)) o.type
        refine wp_value (v := v) (w' := w') ?_ (hn S' β' w' v h7 h8 h9)
        simp [execOp, ho, Go.resolve, invoke, builtin, he, ht, h6]
    · -- min
      simp only [Option.bind_eq_some_iff, two, Option.some.injEq, Prod.mk.injEq] at h
      obtain ⟨l, h2, rfl, rfl⟩ := h
      obtain ⟨v, h3, h4⟩ := minMax_run (P := P) h2 hr ts o.type w
      refine pure_ok hc (v := v) ?_ h4 hn
      have he : (as.toList.map a.eval).toArray = as.map a.eval := (ofList _ _ hargs).symm
      rw [he] at h3
      simp only [if_true] at h3
      simp [execOp, ho, Go.resolve, invoke, builtin, h3]
    · simp only [Option.bind_eq_some_iff, two, Option.some.injEq, Prod.mk.injEq] at h
      obtain ⟨l, h2, rfl, rfl⟩ := h
      obtain ⟨v, h3, h4⟩ := minMax_run (P := P) h2 hr ts o.type w
      refine pure_ok hc (v := v) ?_ h4 hn
      have he : (as.toList.map a.eval).toArray = as.map a.eval := (ofList _ _ hargs).symm
      rw [he] at h3
      simp only [Bool.false_eq_true, if_false] at h3
      simp [execOp, ho, Go.resolve, invoke, builtin, h3]
    · cases h
  · -- a call
    rename_i x as ts ho
    simp only [Option.bind_eq_some_iff] at h
    obtain ⟨g, h1, vs, h2, h⟩ := h
    split at h
    · rename_i k hk
      cases hb : g.2.isEmpty with
      | false => rw [hb] at h; cases h
      | true =>
        rw [hb] at h; simp only [cond_true] at h
        have hg2 : g.2 = [] := List.isEmpty_iff.1 hb
        obtain ⟨cs, h3, h4⟩ := calleeOf_rel hs h1
        have hr : RelAVs (F.rp S β O w) vs (as.map a.eval ++ cs).toList := by
          have := RelAVs_append (gvs_rel hE hs h2) (caps_rel h4 (by rw [hg2]; rfl))
          rw [hg2] at this
          simpa using this
        obtain ⟨h5, h6⟩ := intrOp_ok hE hI hc hlk hk hr h hnew
        have : (execOp a.eval o).run P w = .ok (.enter g.1 (as.map a.eval ++ cs)) w := by
          simp [execOp, ho, Go.resolve, Deferred.ofValue, h3, invoke, h5]
        unfold Oper.wp
        rw [this, Oper.upon_enter]
        refine h6.mono ?_
        rintro e w' ⟨v, S', β', rfl, h7, h8, h9⟩
        exact hn S' β' w' v h7 h8 h9
    · rename_i hkn
      cases hb : (g.2.all fun l => Nat.beq l.size 1) with
      | false => rw [hb] at h; cases h
      | true =>
        rw [hb] at h; simp only [cond_true] at h
        obtain ⟨cs, h3, h4⟩ := calleeOf_rel hs h1
        have hr : RelAVs (F.rp S β O w) (vs ++ g.2.map AV.one) (as.map a.eval ++ cs).toList := by
          have := RelAVs_append (gvs_rel hE hs h2) (caps_rel h4 hb)
          simpa using this
        obtain ⟨h5, h6⟩ : (callFunc g.1 (as.map a.eval ++ cs)).run P w = .ok (.enter g.1 (as.map a.eval ++ cs)) w ∧ Calls P g.1 (as.map a.eval ++ cs) w fun e w' => ∃ v S' β', e = .returned v ∧ Core F S' β' (over u O) w' ∧ (F.rp S β O w).le (F.rp S' β' (over u O) w') ∧ RelAV (F.rp S' β' (over u O) w') av v := by
          cases hsp : c.shape g.1 with
          | none => rw [hsp] at h; exact callOp_ok hI hsp hc hlk hns h hr hnew
          | some sh => rw [hsp] at h; exact scallOp_ok hI hsp hc hlk hns h hr hnew
        have : (execOp a.eval o).run P w = .ok (.enter g.1 (as.map a.eval ++ cs)) w := by
          simp [execOp, ho, Go.resolve, Deferred.ofValue, h3, invoke, h5]
        unfold Oper.wp
        rw [this, Oper.upon_enter]
        refine h6.mono ?_
        rintro e w' ⟨v, S', β', rfl, h7, h8, h9⟩
        exact hn S' β' w' v h7 h8 h9
  · cases h
end
end Go.Proofs.R

/- A region: its operations one by one, in the order of the list, and in every other order that is allowed. -/
namespace Go.Proofs.R
open Go

section
variable {P : Program} {c : Ctx} {I : Interp c}

theorem plainN_not {o : AObj} (h : plainN o = true) : (∀ e e' t xss s, o ≠ .rows e e' t xss s) ∧ ∀ e hs, o ≠ .lrow e hs := by
  cases o with
  | rows e e' t xss s => cases h
  | lrow e hs => cases h
  | _ => exact ⟨(by intros; intro hh; cases hh), (by intros; intro hh; cases hh)⟩
theorem fltO_some {x : Option AObj} {o : AObj} (h : fltO x = some o) : x = some o ∧ plainO x = true := by
  cases x with
  | none => cases h
  | some y => cases y <;> first | (cases h; exact ⟨rfl, rfl⟩) | cases h
theorem View.at {O P : Nat → Option AObj} (h : View O P) {n : Nat} {o : AObj} (hn : fltO (O n) = some o) : P n = some o := by
  obtain ⟨h1, h2⟩ := fltO_some hn
  rw [h.plain n (h.small n o h1) h2, h1]
theorem View.none {O P : Nat → Option AObj} (h : View O P) {n : Nat} (hn : n < bigName) (h0 : O n = none) : P n = none := by
  rw [h.plain n hn (by rw [h0]; rfl), h0]

theorem over_eq (u : Upd) (O : Nat → Option AObj) (n : Nat) : R.over u O n = match lkp u n with | some o => some o | none => O n := rfl

/-- plain changes -/
theorem View.over {O P : Nat → Option AObj} (h : View O P) {u : Upd} (hu : ∀ n o, (n, o) ∈ u → plainO (O n) = true ∧ plainN o = true ∧ n < bigName) : View (R.over u O) (R.over u P) := by
  have key : ∀ k e hs, R.over u P k = some (.lrow e hs) → P k = some (.lrow e hs) := by
    intro k e hs hk
    rw [over_eq] at hk
    cases hl : lkp u k with
    | some x =>
      rw [hl] at hk
      simp only [Option.some.injEq] at hk
      exact ((plainN_not (hu k x (lkp_mem hl)).2.1).2 _ _ hk).elim
    | none => rw [hl] at hk; exact hk
  refine ⟨?_, ?_, ?_, ?_, ?_, ?_, fun n e hs hn => h.hid n e hs (key _ _ _ hn)⟩
  · intro n o ho
    rw [over_eq] at ho
    cases hl : lkp u n with
    | some x => exact (hu n x (lkp_mem hl)).2.2
    | none => rw [hl] at ho; exact h.small n o ho
  · intro n hn hp
    rw [over_eq, over_eq] at *
    cases hl : lkp u n with
    | some x => rfl
    | none => rw [hl] at hp; exact h.plain n hn hp
  · intro n e e' t xss s hr
    rw [over_eq] at hr
    cases hl : lkp u n with
    | some x =>
      rw [hl] at hr
      simp only [Option.some.injEq] at hr
      exact ((plainN_not (hu n x (lkp_mem hl)).2.1).1 _ _ _ _ _ hr).elim
    | none =>
      rw [hl] at hr
      obtain ⟨hs, h1, h2, h3, h4⟩ := h.rows n e e' t xss s hr
      refine ⟨hs, by rw [over_eq, hl]; exact h1, h2, h3, fun i q xs hq hx => ?_⟩
      obtain ⟨h5, h6⟩ := h4 i q xs hq hx
      refine ⟨h5, fun hne => ?_⟩
      rw [over_eq]
      cases hl2 : lkp u q with
      | some x => have := (hu q x (lkp_mem hl2)).2.2; omega
      | none => exact h6 hne
  · intro n e hs hh
    rw [over_eq] at hh
    cases hl : lkp u n with
    | some x =>
      rw [hl] at hh
      simp only [Option.some.injEq] at hh
      exact (plainN_not (hu n x (lkp_mem hl)).2.1).2 _ _ hh
    | none => rw [hl] at hh; exact h.lrow n e hs hh
  · intro n m e hs e2 hs2 h1 h2 hne
    exact h.apart n m e hs e2 hs2 (key _ _ _ h1) (key _ _ _ h2) hne
  · obtain ⟨B, hB, hB2⟩ := h.bound
    refine ⟨max B bigName, fun k hk => ?_, fun n e hs hn q hq => by have := hB2 n e hs (key _ _ _ hn) q hq; omega⟩
    rw [over_eq]
    cases hl : lkp u k with
    | some x => have := (hu k x (lkp_mem hl)).2.2; omega
    | none => exact hB k (by omega)

def Eqv (s t : St) : Prop := lkp s.σ = lkp t.σ ∧ lkp s.O = lkp t.O

theorem Good.eqv {F : Fr} {nt : Nat} {s t : St} {a : Act} {w : World} (h : Eqv s t) (hg : Good F nt s a w) : Good F nt t a w := by
  obtain ⟨S, β, P, h1, h2, h3, h4, h5⟩ := hg
  exact ⟨S, β, P, h1, by rw [← h.1]; exact h2, by rw [← h.2]; exact h3, by rw [← h.2]; exact h4, h5⟩

theorem AllFull.over {O : Nat → Option AObj} (h : AllFull O) {u : Upd} (hu : ∀ n o, (n, o) ∈ u → plainN o = true) : AllFull (R.over u O) := by
  intro n e e' t xss s hr
  rw [over_eq] at hr
  cases hl : lkp u n with
  | some x =>
    rw [hl] at hr
    simp only [Option.some.injEq] at hr
    exact ((plainN_not (hu n x (lkp_mem hl))).1 _ _ _ _ _ hr).elim
  | none => rw [hl] at hr; exact h n e e' t xss s hr
theorem updOk_plain {O : List (Nat × AObj)} {ns : List Nat} {d : Nat} : ∀ {u : Upd}, updOk O ns d u = true → ∀ n o, (n, o) ∈ u → plainO (lkp O n) = true ∧ plainN o = true ∧ n < bigName
  | [], _, _, _, h => by cases h
  | (m, x) :: u, hu, n, o, h => by
    simp only [updOk, Bool.and_eq_true] at hu
    rcases List.mem_cons.1 h with h | h
    · cases h
      exact ⟨hu.1.2.1.1, hu.1.2.1.2, Nat.le_of_ble_eq_true hu.1.2.2⟩
    · exact updOk_plain hu.2 n o h

def putF (dst : Option Nat) (a : AV) (σ : Nat → Option AV) : Nat → Option AV :=
  match dst with
  | none => σ
  | some d => upd σ d (some a)

/-- is the operation wanted? -/
def WantA (ops : Array Oper) (o : Oper) (st : St) (b : Bool) : Prop :=
  match o.guard with
  | none => b = true
  | some (j, want) => ∃ dj, (ops[j]?).bind (·.dst) = some dj ∧ dj < rootBase ∧ ((∃ g, lkp st.σ dj = some (.one (.v .bool g)) ∧ b = (g == want)) ∨ (lkp st.σ dj = some (.tup []) ∧ b = false))

structure Did (c : Ctx) (I : Interp c) (o : Oper) (st : St) (x : Log) (st' : St) : Prop where
  did : ∃ av u, opC c I st.σ (lookIn st.O (namesAt st.σ st.O o)) (namesAt st.σ st.O o) (o.dst.getD noSlot) o two = some (av, u) ∧
    updOk st.O (namesAt st.σ st.O o) (o.dst.getD noSlot) u = true ∧ lkp st'.σ = putF o.dst av (lkp st.σ) ∧ lkp st'.O = over u (lkp st.O) ∧
    x.ns = namesAt st.σ st.O o ∧ x.ws = u.map (·.1)

structure Skipped (o : Oper) (st : St) (x : Log) (st' : St) : Prop where
  σ : lkp st'.σ = putF o.dst (.tup []) (lkp st.σ)
  O : lkp st'.O = lkp st.O
  ns : x.ns = []
  ws : x.ws = []

def AStep (c : Ctx) (I : Interp c) (nt : Nat) (ops : Array Oper) (o : Oper) (st : St) (x : Log) (st' : St) : Prop :=
  (∀ d, o.dst = some d → d < nt) ∧ ((WantA ops o st true ∧ Did c I o st x st') ∨ (WantA ops o st false ∧ Skipped o st x st'))

/-! ### what an operation depends on -/
theorem gv_congr {σ σ' : List (Nat × AV)} {x : Operand} (h : ∀ t, x = .tmp t → lkp σ t = lkp σ' t) (T : TypeId) : gv c σ x T = gv c σ' x T := by
  cases x with
  | tmp t => simp only [gv]; rw [h t rfl]
  | const v => unfold gv; split <;> first | rfl | (rename_i hh; cases hh)
  | _ => rfl
theorem gvs_congr {σ σ' : List (Nat × AV)} : ∀ {xs : List Operand}, (∀ x ∈ xs, ∀ T, gv c σ x T = gv c σ' x T) → ∀ ts, gvs c σ xs ts = gvs c σ' xs ts
  | [], _, _ => rfl
  | x :: xs, h, ts => by
    simp only [gvs]
    rw [h x List.mem_cons_self, gvs_congr (fun y hy => h y (List.mem_cons_of_mem _ hy))]
theorem partsOf_congr {σ σ' : List (Nat × AV)} : ∀ {ty : Nat → TypeId} {ps : List (Nat × Operand)}, (∀ x ∈ ps.map (·.2), ∀ T, gv c σ x T = gv c σ' x T) → partsOf c σ ty ps = partsOf c σ' ty ps
  | ty, [], _ => rfl
  | ty, (i, x) :: ps, h => by
    simp only [partsOf]
    rw [h x (by simp), partsOf_congr (fun y hy => h y (by simp only [List.map_cons, List.mem_cons]; exact .inr hy))]
theorem optG_congr {σ σ' : List (Nat × AV)} {x : Option Operand} (h : ∀ y, x = some y → ∀ T, gv c σ y T = gv c σ' y T) : optG c σ x = optG c σ' x := by
  cases x with
  | none => rfl
  | some y => simp only [optG]; rw [h y rfl]
theorem calleeOf_congr {σ σ' : List (Nat × AV)} {x : Operand} (h : ∀ t, x = .tmp t → lkp σ t = lkp σ' t) : calleeOf σ x = calleeOf σ' x := by
  cases x with
  | tmp t => simp only [calleeOf]; rw [h t rfl]
  | _ => rfl

theorem opC_congr {ρ : Type} {σ σ' : List (Nat × AV)} {o : Oper} (h : ∀ t, .tmp t ∈ o.op.operands → lkp σ t = lkp σ' t) (lk : Nat → Option AObj) (ns : List Nat) (d : Nat) (K : AV → Upd → Option ρ) :
    opC c I σ lk ns d o K = opC c I σ' lk ns d o K := by
  have hg : ∀ x, x ∈ o.op.operands → ∀ T, gv c σ x T = gv c σ' x T := fun x hx T => gv_congr (fun t e => h t (e ▸ hx)) T
  obtain ⟨dst, op, type, pos, after, guard⟩ := o
  cases op <;> simp only [Op.operands] at hg <;> simp only [opC]
  case move x => rw [hg x (by simp)]
  case assign x => rw [hg x (by simp)]
  case pick x a b => rw [hg x (by simp), hg a (by simp), hg b (by simp)]
  case box T x => rw [hg x (by simp)]
  case build T ps =>
    have := fun ty => partsOf_congr (c := c) (σ := σ) (σ' := σ') (ty := ty) (ps := ps.toList) (fun x hx => hg x (by simpa using hx))
    simp only [this]
  case buildSlice T n ps =>
    have := fun ty => partsOf_congr (c := c) (σ := σ) (σ' := σ') (ty := ty) (ps := ps.toList) (fun x hx => hg x (by simpa using hx))
    simp only [this]
  case load T a => rw [hg a (by simp)]
  case store T a x => rw [hg a (by simp), hg x (by simp)]
  case nilCheck x => rw [hg x (by simp)]
  case binOp op T x y U => rw [hg x (by simp), hg y (by simp)]
  case unOp op T x => rw [hg x (by simp)]
  case convert s t x => rw [hg x (by simp)]
  case makeFunc fn first caps =>
    cases fn <;> simp only
    rw [gvs_congr (σ := σ) (σ' := σ') (fun x hx => hg x (by simp at hx ⊢; exact .inr hx))]
  case makeSlice T l m => rw [hg l (by simp), hg m (by simp)]
  case slice T x lo hi mx =>
    rw [hg x (by simp), optG_congr (σ := σ) (σ' := σ') (x := lo) (fun y e => hg y (by subst e; simp)), optG_congr (σ := σ) (σ' := σ') (x := hi) (fun y e => hg y (by subst e; simp))]
  case fieldAddr T x f => rw [hg x (by simp)]
  case field T x f => rw [hg x (by simp)]
  case indexAddr T x i => rw [hg x (by simp), hg i (by simp)]
  case index T x i => rw [hg x (by simp), hg i (by simp)]
  case extract x i => rw [hg x (by simp)]
  case range T x => rw [hg x (by simp)]
  case entry it => rw [hg it (by simp)]
  case next it b => cases b <;> simp only; rw [hg it (by simp)]
  case lookup T x i ok => rw [hg x (by simp), hg i (by simp)]
  case mapEntry T x i => rw [hg x (by simp), hg i (by simp)]
  case entryStore T x i y => rw [hg x (by simp), hg i (by simp), hg y (by simp)]
  case insert T x i y => rw [hg x (by simp), hg i (by simp), hg y (by simp)]
  case mapUpdate T x i y => rw [hg x (by simp), hg i (by simp), hg y (by simp)]
  case call cl =>
    obtain ⟨callee, as, ts⟩ := cl
    cases callee with
    | builtin b =>
      simp only
      rw [gvs_congr (σ := σ) (σ' := σ') (fun x hx => hg x (by simp only [Call.operands]; simp at hx ⊢; exact hx))]
    | value x =>
      simp only
      rw [calleeOf_congr (σ := σ) (σ' := σ') (fun t e => h t (by subst e; simp [Op.operands, Call.operands])), gvs_congr (σ := σ) (σ' := σ') (fun x hx => hg x (by simp only [Call.operands]; simp at hx ⊢; exact .inr hx))]
    | invoke r m => rfl

theorem memB_iff {l : List Nat} {n : Nat} : memB l n = true ↔ n ∈ l := by
  induction l with
  | nil => simp [memB]
  | cons m l ih =>
    simp only [memB, Bool.or_eq_true, ih, List.mem_cons]
    constructor
    · rintro (h | h)
      · exact .inl (Nat.eq_of_beq_eq_true h).symm
      · exact .inr h
    · rintro (rfl | h)
      · exact .inl (by simp)
      · exact .inr h
theorem disjB_iff {l m : List Nat} : disjB l m = true ↔ ∀ n ∈ l, n ∉ m := by
  induction l with
  | nil => simp [disjB]
  | cons k l ih =>
    simp only [disjB, Bool.and_eq_true, ih, List.mem_cons, forall_eq_or_imp, Bool.not_eq_true']
    rw [← Bool.not_eq_true, memB_iff]

theorem flatMap_congr' {α β : Type} : ∀ {l : List α} {f g : α → List β}, (∀ x ∈ l, f x = g x) → l.flatMap f = l.flatMap g
  | [], _, _, _ => rfl
  | x :: l, f, g, h => by
    rw [List.flatMap_cons, List.flatMap_cons, h x List.mem_cons_self, flatMap_congr' fun y hy => h y (List.mem_cons_of_mem _ hy)]

theorem reach_congr {O O' : List (Nat × AObj)} : ∀ (k : Nat) (ns : List Nat), (∀ n ∈ reach O k ns, lkp O' n = lkp O n) → reach O' k ns = reach O k ns
  | 0, _, _ => rfl
  | k + 1, ns, h => by
    simp only [reach] at h ⊢
    have e : (ns.flatMap fun n => optL (lkp O' n) AObj.names) = ns.flatMap fun n => optL (lkp O n) AObj.names := by
      apply flatMap_congr'; intro n hn; rw [h n (List.mem_append_left _ hn)]
    rw [e, reach_congr k _ (fun n hn => h n (List.mem_append_right _ hn))]
end
end Go.Proofs.R

/- Operations that do not look at each other may change places. -/
namespace Go.Proofs.R
open Go

section
variable {P : Program} {c : Ctx} {I : Interp c} {nt : Nat} {ops : Array Oper}

theorem looks_op {o : Oper} {t : Nat} (h : .tmp t ∈ o.op.operands) : t ∈ o.looksAt ops :=
  List.mem_append_left _ (List.mem_filterMap.2 ⟨.tmp t, by simpa using h, rfl⟩)
theorem looks_guard {o : Oper} {j : Nat} {want : Bool} {dj : Nat} (hg : o.guard = some (j, want)) (hd : (ops[j]?).bind (·.dst) = some dj) : dj ∈ o.looksAt ops := by
  refine List.mem_append_right _ ?_
  rw [hg]; simp only [hd, Option.toList_some, List.mem_singleton]

theorem boxRef_slots {σ σ' : List (Nat × AV)} {O : List (Nat × AObj)} {x : Operand} (h : ∀ t, x = .tmp t → lkp σ t = lkp σ' t) : boxRef σ O x = boxRef σ' O x := by
  cases x with
  | tmp t => simp only [boxRef]; rw [h t rfl]
  | _ => rfl
theorem boxOnly_slots {σ σ' : List (Nat × AV)} {O : List (Nat × AObj)} {o : Oper} (h : ∀ t, .tmp t ∈ o.op.operands → lkp σ t = lkp σ' t) : boxOnly σ O o = boxOnly σ' O o := by
  obtain ⟨dst, op, type, pos, after, guard⟩ := o
  cases op with
  | store T x y => exact boxRef_slots fun t e => h t (by simp [Op.operands, e])
  | load T x => exact boxRef_slots fun t e => h t (by simp [Op.operands, e])
  | fieldAddr T x f => exact boxRef_slots fun t e => h t (by simp [Op.operands, e])
  | _ => rfl
theorem namesAt_slots {σ σ' : List (Nat × AV)} {O : List (Nat × AObj)} {o : Oper} (h : ∀ t, .tmp t ∈ o.op.operands → lkp σ t = lkp σ' t) : namesAt σ O o = namesAt σ' O o := by
  unfold namesAt
  rw [boxOnly_slots h]
  split
  · rfl
  · congr 1
    refine flatMap_congr' ?_
    intro x hx
    cases x with
    | tmp t => simp only; rw [h t (by simpa using hx)]
    | _ => rfl
theorem mem_reach {O : List (Nat × AObj)} : ∀ (k : Nat) {ns : List Nat} {n : Nat}, n ∈ ns → n ∈ reach O k ns
  | 0, _, _, h => h
  | k + 1, _, _, h => List.mem_append_left _ h
theorem boxRef_names {σ : List (Nat × AV)} {O O' : List (Nat × AObj)} {x : Operand} (h : ∀ t n f, x = .tmp t → lkp σ t = some (.one (.ref n f)) → lkp O' n = lkp O n) : boxRef σ O' x = boxRef σ O x := by
  cases x with
  | tmp d =>
    unfold boxRef
    simp only
    split
    · rename_i hd
      rw [h d _ _ rfl hd]
    · rfl
  | _ => rfl
theorem boxOnly_names {σ : List (Nat × AV)} {O O' : List (Nat × AObj)} {o : Oper} (h : ∀ t n f, .tmp t ∈ o.op.operands → lkp σ t = some (.one (.ref n f)) → lkp O' n = lkp O n) : boxOnly σ O' o = boxOnly σ O o := by
  obtain ⟨dst, op, type, pos, after, guard⟩ := o
  cases op with
  | store T x y => exact boxRef_names fun t n f e => h t n f (by simp [Op.operands, e])
  | load T x => exact boxRef_names fun t n f e => h t n f (by simp [Op.operands, e])
  | fieldAddr T x g => exact boxRef_names fun t n f e => h t n f (by simp [Op.operands, e])
  | _ => rfl
theorem boxRef_some {σ : List (Nat × AV)} {O O' : List (Nat × AObj)} {x : Operand} {n : Nat} (h : boxRef σ O x = some n) (hO : lkp O' n = lkp O n) : boxRef σ O' x = some n := by
  cases x with
  | tmp d =>
    unfold boxRef at h ⊢
    simp only at h ⊢
    split at h
    · split at h
      · rename_i hm
        cases h
        rw [hO, hm]
      · cases h
    · cases h
  | _ => cases h
theorem boxOnly_some {σ : List (Nat × AV)} {O O' : List (Nat × AObj)} {o : Oper} {n : Nat} (h : boxOnly σ O o = some n) (hO : lkp O' n = lkp O n) : boxOnly σ O' o = some n := by
  obtain ⟨dst, op, type, pos, after, guard⟩ := o
  cases op with
  | store T x y => exact boxRef_some h hO
  | load T x => exact boxRef_some h hO
  | fieldAddr T x g => exact boxRef_some h hO
  | _ => cases h

theorem namesAt_congr {σ σ' : List (Nat × AV)} {O O' : List (Nat × AObj)} {o : Oper} (h : ∀ t, .tmp t ∈ o.op.operands → lkp σ t = lkp σ' t) (hO : ∀ n ∈ namesAt σ O o, lkp O' n = lkp O n) : namesAt σ' O' o = namesAt σ O o := by
  rw [namesAt_slots h] at hO ⊢
  unfold namesAt at hO ⊢
  cases hb : boxOnly σ' O o with
  | some n =>
    rw [hb] at hO
    rw [boxOnly_some hb (hO n (by simp))]
  | none =>
    rw [hb] at hO
    have : boxOnly σ' O' o = none := by
      rw [← hb]
      refine boxOnly_names fun t n f ht hd => hO n (mem_reach 4 ?_)
      refine List.mem_flatMap.2 ⟨.tmp t, by simpa using ht, ?_⟩
      simp [optL, hd, AV.names, Lf.names]
    rw [this]
    exact reach_congr _ _ hO

theorem lookIn_congr {O O' : List (Nat × AObj)} {ns : List Nat} (hO : ∀ n ∈ ns, lkp O' n = lkp O n) : lookIn O' ns = lookIn O ns := by
  funext n
  unfold lookIn
  cases hb : memB ns n with
  | false => rfl
  | true => simp only [cond_true]; exact congrArg fltO (hO n (memB_iff.1 hb))

theorem WantA.congr {o : Oper} {s t : St} {b : Bool} (h : ∀ d ∈ o.looksAt ops, lkp t.σ d = lkp s.σ d) (hw : WantA ops o s b) : WantA ops o t b := by
  unfold WantA at *
  split
  · rename_i hg; simp only [hg] at hw; exact hw
  · rename_i j want hg
    simp only [hg] at hw
    obtain ⟨dj, h1, h2⟩ := hw
    exact ⟨dj, h1, by rw [h dj (looks_guard hg h1)]; exact h2⟩

theorem updOk_congr {O O' : List (Nat × AObj)} {ns : List Nat} {d : Nat} (hns : ∀ n ∈ ns, lkp O' n = lkp O n) : ∀ {u : Upd}, (∀ n ∈ u.map (·.1), lkp O n = none → lkp O' n = none) → updOk O ns d u = true → updOk O' ns d u = true
  | [], _, _ => rfl
  | (n, x) :: u, h, hu => by
    simp only [updOk, Bool.and_eq_true] at hu ⊢
    have h1 := hu.1.1
    have h2 := hu.1.2
    have key : (bif Nat.beq (n / 8) d && Nat.blt (n % 8) 5 then (lkp O' n).isNone else memB ns n) = true ∧ plainO (lkp O' n) = true := by
      cases hb : (Nat.beq (n / 8) d && Nat.blt (n % 8) 5) with
      | false =>
        rw [hb] at h1
        have h1 : memB ns n = true := h1
        exact ⟨h1, by rw [hns n (memB_iff.1 h1)]; exact h2.1.1⟩
      | true =>
        rw [hb] at h1
        simp only [cond_true, Option.isNone_iff_eq_none] at h1 ⊢
        have h3 := h n List.mem_cons_self h1
        exact ⟨h3, by rw [h3]; rfl⟩
    exact ⟨⟨key.1, ⟨key.2, h2.1.2⟩, h2.2⟩, updOk_congr hns (fun m hm => h m (List.mem_cons_of_mem _ hm)) hu.2⟩

theorem over_none {u : Upd} {n : Nat} : n ∉ u.map (·.1) → ∀ O : Nat → Option AObj, over u O n = O n := by
  intro h O
  unfold over
  have : lkp u n = none := by
    cases hl : lkp u n with
    | none => rfl
    | some x => exact (h (List.mem_map.2 ⟨(n, x), lkp_mem hl, rfl⟩)).elim
  rw [this]

theorem putF_ne {d : Option Nat} {v : AV} {σ : Nat → Option AV} {t : Nat} (h : d ≠ some t) : putF d v σ t = σ t := by
  cases d with
  | none => rfl
  | some e => exact upd_ne _ _ _ _ (fun e' => h (e' ▸ rfl))

theorem putF_comm {d e : Option Nat} {u v : AV} {σ : Nat → Option AV} (h : ∀ x, d = some x → e ≠ some x) : putF d u (putF e v σ) = putF e v (putF d u σ) := by
  cases d with
  | none => rfl
  | some d =>
    cases e with
    | none => rfl
    | some e =>
      have hne : e ≠ d := fun x => h d rfl (by rw [x])
      funext t
      show upd (upd σ e (some v)) d (some u) t = upd (upd σ d (some u)) e (some v) t
      unfold upd
      by_cases h1 : t = d
      · subst h1; simp [Ne.symm hne]
      · by_cases h2 : t = e <;> simp [h1, h2, hne]

theorem over_comm {u v : Upd} {O : Nat → Option AObj} (h : ∀ n ∈ u.map (·.1), n ∉ v.map (·.1)) : over u (over v O) = over v (over u O) := by
  funext n
  by_cases h1 : n ∈ u.map (·.1)
  · rw [over_none (h n h1)]
    unfold over
    cases lkp u n with
    | none => simp only; have := over_none (h n h1) O; unfold over at this; exact this
    | some x => rfl
  · rw [over_none h1]
    unfold over
    cases hl : lkp v n with
    | none => simp only; have := over_none h1 O; unfold over at this; exact this.symm
    | some x => rfl

/-- what an operation does to a state -/
structure Eff where
  b : Bool
  av : AV
  u : Upd

/-- the step, told through what it does -/
theorem Did.at {o : Oper} {s t : St} {x : Log} {s' : St} (h : Did c I o s x s') (hσ : ∀ d, .tmp d ∈ o.op.operands → lkp s.σ d = lkp t.σ d) (hO : ∀ n ∈ x.ns, lkp t.O n = lkp s.O n) (hw : ∀ n ∈ x.ws, lkp s.O n = none → lkp t.O n = none) :
    ∃ av u, x.ws = u.map (·.1) ∧ lkp s'.σ = putF o.dst av (lkp s.σ) ∧ lkp s'.O = over u (lkp s.O) ∧ ∀ t', lkp t'.σ = putF o.dst av (lkp t.σ) → lkp t'.O = over u (lkp t.O) → Did c I o t x t' := by
  obtain ⟨av, u, h1, h2, h3, h4, h5, h6⟩ := h.did
  refine ⟨av, u, h6, h3, h4, ?_⟩
  intro t' e1 e2
  rw [h5] at hO
  have hO' := hO
  have hns : namesAt t.σ t.O o = namesAt s.σ s.O o := namesAt_congr hσ hO
  refine ⟨av, u, ?_, ?_, e1, e2, by rw [hns]; exact h5, h6⟩
  · rw [hns, lookIn_congr hO, ← opC_congr hσ]; exact h1
  · rw [hns]
    exact updOk_congr hO' (by rw [← h6]; exact hw) h2

/-- two steps change places -/
theorem swap {oi oj : Oper} {xi xj : Log} {s s1 s2 : St} (hi : AStep c I nt ops oi s xi s1) (hj : AStep c I nt ops oj s1 xj s2) (hap : oi.apart ops oj = true) (hl : apartB xj xi = true) :
    ∃ t1, AStep c I nt ops oj s xj t1 ∧ AStep c I nt ops oi t1 xi s2 := by
  obtain ⟨a1, a2, a3⟩ := Oper.apart_spec hap
  simp only [apartB, Bool.and_eq_true, disjB_iff] at hl
  obtain ⟨⟨l1, l2⟩, l3⟩ := hl
  obtain ⟨di, hi⟩ := hi
  obtain ⟨dj, hj⟩ := hj
  -- what i has changed
  have hs1 : (∀ t, oi.dst ≠ some t → lkp s1.σ t = lkp s.σ t) ∧ (∀ n, n ∉ xi.ws → lkp s1.O n = lkp s.O n) := by
    rcases hi with ⟨_, hi⟩ | ⟨_, hi⟩
    · obtain ⟨av, u, _, _, h3, h4, _, h6⟩ := hi.did
      exact ⟨fun t ht => by rw [h3, putF_ne ht], fun n hn => by rw [h4, over_none (by rw [← h6]; exact hn)]⟩
    · exact ⟨fun t ht => by rw [hi.σ, putF_ne ht], fun n _ => by rw [hi.O]⟩
  have hσj : ∀ t ∈ oj.looksAt ops, lkp s.σ t = lkp s1.σ t := fun t ht => (hs1.1 t (fun e => a1 t e ht)).symm
  -- j first
  have hj1 : ∃ (avj : AV) (uj : Upd), xj.ws = uj.map (·.1) ∧ lkp s2.σ = putF oj.dst avj (lkp s1.σ) ∧ lkp s2.O = over uj (lkp s1.O) ∧
      ∀ t1, lkp t1.σ = putF oj.dst avj (lkp s.σ) → lkp t1.O = over uj (lkp s.O) → AStep c I nt ops oj s xj t1 := by
    rcases hj with ⟨wj, hj⟩ | ⟨wj, hj⟩
    · obtain ⟨av, u, h1, h2, h3, h4⟩ := hj.at (t := s) (fun d hd => (hσj d (looks_op hd)).symm) (fun n hn => (hs1.2 n (fun h => l3 n h hn)).symm) (fun n hn h0 => by
        rw [hs1.2 n (l2 n hn)] at h0; exact h0)
      exact ⟨av, u, h1, h2, h3, fun t1 e1 e2 => ⟨dj, .inl ⟨wj.congr hσj, h4 t1 e1 e2⟩⟩⟩
    · refine ⟨.tup [], [], by rw [hj.ws]; rfl, hj.σ, by rw [hj.O, over_nil], fun t1 e1 e2 => ⟨dj, .inr ⟨wj.congr hσj, ⟨e1, by rw [e2, over_nil], hj.ns, hj.ws⟩⟩⟩⟩
  obtain ⟨avj, uj, j1, j2, j3, j4⟩ := hj1
  have ht : ∃ t1 : St, lkp t1.σ = putF oj.dst avj (lkp s.σ) ∧ lkp t1.O = over uj (lkp s.O) := by
    refine ⟨⟨match oj.dst with | none => s.σ | some d => (d, avj) :: s.σ, uj ++ s.O⟩, ?_, (over_lkp _ _).symm⟩
    cases oj.dst with
    | none => rfl
    | some d =>
      funext t
      show lkp ((d, avj) :: s.σ) t = _
      rw [lkp_cons]; rfl
  obtain ⟨t1, e1, e2⟩ := ht
  refine ⟨t1, j4 t1 e1 e2, di, ?_⟩
  have hσi : ∀ t ∈ oi.looksAt ops, lkp t1.σ t = lkp s.σ t := fun t ht => by rw [e1, putF_ne (fun e => a3 t e ht)]
  have hput : ∀ av, putF oi.dst av (lkp t1.σ) = putF oj.dst avj (putF oi.dst av (lkp s.σ)) := by
    intro av
    rw [e1]
    exact putF_comm a2
  rcases hi with ⟨wi, hi⟩ | ⟨wi, hi⟩
  · refine .inl ⟨wi.congr hσi, ?_⟩
    obtain ⟨av, u, h1, h2, h3, h4⟩ := hi.at (t := t1) (fun d hd => (hσi d (looks_op hd)).symm) (fun n hn => by
        rw [e2, over_none (by rw [← j1]; exact fun h => l1 n h hn)]) (fun n hn h0 => by
        rw [e2, over_none (by rw [← j1]; exact fun h => l2 n h hn)]; exact h0)
    refine h4 s2 ?_ ?_
    · rw [hput, j2, h2]
    · rw [j3, h3, e2]
      exact over_comm (by rw [← h1, ← j1]; exact l2)
  · refine .inr ⟨wi.congr hσi, ?_, ?_, hi.ns, hi.ws⟩
    · rw [hput, j2, hi.σ]
    · rw [j3, e2, hi.O]

/-! ### a look into a map, and a place made in one -/
theorem mget_place (t : Ty) {β : Type} (z : β) (key k' : t.V) : ∀ m : List (t.V × β), (mget t z key (mput t k' (mget t z k' m).1 m)).1 = (mget t z key m).1
  | [] => by
    show (mget t z key [(k', z)]).1 = z
    simp only [mget]
    cases keyEq t key k' <;> rfl
  | p :: m => by
    cases h : keyEq t k' p.1 with
    | true =>
      simp only [mget, mput, h, cond_true]
    | false =>
      simp only [mget, mput, h, cond_false]
      cases h2 : keyEq t key p.1 with
      | true => rfl
      | false => simp only [cond_false]; exact mget_place t z key k' m

theorem reach_names {O O' : List (Nat × AObj)} (h : ∀ n, optL (lkp O' n) AObj.names = optL (lkp O n) AObj.names) : ∀ (k : Nat) (ns : List Nat), reach O' k ns = reach O k ns
  | 0, _ => rfl
  | k + 1, ns => by
    simp only [reach]
    rw [flatMap_congr' (fun n _ => h n), reach_names h k]

theorem lookup_soft {O O' : List (Nat × AObj)} {σ : List (Nat × AV)} {d : Nat} {o : Oper} {T T' : TypeId} {x i : Operand} (ho : o.op = .lookup T x i false) {n k e : Nat} {t u : Ty} {m m' : List (t.V × u.V)} {key : t.V} {z : u.V} {ve : TE} {lz : List Lf}
    (hn : lkp O n = some (.mp k e t u m)) (hn' : lkp O' n = some (.mp k e t u m')) (hoth : ∀ q, q ≠ n → lkp O' q = lkp O q) (hve : lkp c.te e = some ve) (hz : toTy u ve.z = some (z, lz)) (hm : m' = mput t key (mget t z key m).1 m) {av : AV} {up : Upd} {ns : List Nat}
    (h : opC c I σ (lookIn O ns) ns d o two = some (av, up)) : opC c I σ (lookIn O' ns) ns d o two = some (av, up) := by
  obtain ⟨dst, op, type, pos, after, guard⟩ := o
  simp only at ho
  subst ho
  simp only [opC, Option.bind_eq_some_iff] at h ⊢
  obtain ⟨a, h1, b, h2, h3⟩ := h
  refine ⟨a, h1, b, h2, ?_⟩
  unfold lookupOp at h3 ⊢
  split at h3
  · rename_i q
    by_cases hq : q = n
    · subst hq
      unfold lookIn at h3 ⊢
      cases hb : memB ns q with
      | false => rw [hb] at h3; cases h3
      | true =>
        rw [hb] at h3
        simp only [cond_true] at h3 ⊢
        rw [hn] at h3; rw [hn']
        simp only [fltO] at h3 ⊢
        cases hok : mapOk c T k e t u with
        | false => rw [hok] at h3; cases h3
        | true =>
          rw [hok] at h3
          simp only [cond_true, cond_false, Option.bind_eq_some_iff] at h3 ⊢
          obtain ⟨key', h4, ve', h5, z', h6, h7⟩ := h3
          rw [hve] at h5; cases h5
          rw [hz] at h6; cases h6
          refine ⟨key', h4, ve, hve, (z, lz), hz, ?_⟩
          rw [hm, mget_place]; exact h7
    · have : lookIn O' ns q = lookIn O ns q := by unfold lookIn; rw [hoth q hq]
      simp only [this]; exact h3
  · cases h3

theorem place_upd {O : List (Nat × AObj)} {σ : List (Nat × AV)} {d : Nat} {o : Oper} {T : TypeId} {x i : Operand} (ho : o.op = .mapEntry T x i) {av : AV} {up : Upd} {ns : List Nat} (h : opC c I σ (lookIn O ns) ns d o two = some (av, up)) :
    ∃ n k e t u, ∃ m : List (t.V × u.V), ∃ key z ve lz, lkp O n = some (.mp k e t u m) ∧ lkp c.te e = some ve ∧ toTy u ve.z = some (z, lz) ∧ up = [(n, .mp k e t u (mput t key (mget t z key m).1 m))] := by
  obtain ⟨dst, op, type, pos, after, guard⟩ := o
  simp only at ho
  subst ho
  simp only [opC, Option.bind_eq_some_iff] at h
  obtain ⟨a, h1, b, h2, h3⟩ := h
  unfold mapPlaceOp at h3
  split at h3
  · rename_i n
    split at h3
    · rename_i k e t u m hl
      cases hok : mapOk c T k e t u with
      | false => rw [hok] at h3; cases h3
      | true =>
        rw [hok] at h3
        simp only [cond_true, Option.bind_eq_some_iff, two, Option.some.injEq, Prod.mk.injEq] at h3
        obtain ⟨key, h4, ve, h5, z, h6, h7, h8⟩ := h3
        refine ⟨n, k, e, t, u, m, key, z.1, ve, z.2, ?_, h5, h6, h8.symm⟩
        unfold lookIn at hl
        cases hb : memB ns n with
        | false => rw [hb] at hl; cases hl
        | true => rw [hb] at hl; exact (fltO_some hl).1
    · cases h3
  · cases h3

theorem look_upd {lk : Nat → Option AObj} {σ : List (Nat × AV)} {d : Nat} {o : Oper} {T : TypeId} {x i : Operand} (ho : o.op = .lookup T x i false) {av : AV} {up : Upd} {ns : List Nat} (h : opC c I σ lk ns d o two = some (av, up)) : up = [] := by
  obtain ⟨dst, op, type, pos, after, guard⟩ := o
  simp only at ho
  subst ho
  simp only [opC, Option.bind_eq_some_iff] at h
  obtain ⟨a, h1, b, h2, h3⟩ := h
  unfold lookupOp at h3
  split at h3
  · split at h3
    · rename_i k e t u m hl
      cases hok : mapOk c T k e t u with
      | false => rw [hok] at h3; cases h3
      | true =>
        rw [hok] at h3
        simp only [cond_true, cond_false, Option.bind_eq_some_iff, two, Option.some.injEq, Prod.mk.injEq] at h3
        obtain ⟨key, h4, ve, h5, z, h6, h7, h8⟩ := h3
        exact h8.symm
    · cases h3
  · cases h3

theorem swap_soft1 {oi oj : Oper} {xi xj : Log} {s s1 s2 : St} (hi : AStep c I nt ops oi s xi s1) (hj : AStep c I nt ops oj s1 xj s2) (hap : oi.apart ops oj = true) (hl : soft1 oi oj = true) :
    ∃ t1, AStep c I nt ops oj s xj t1 ∧ AStep c I nt ops oi t1 xi s2 := by
  have skip : (xi.ns = [] ∧ xi.ws = []) ∨ (xj.ns = [] ∧ xj.ws = []) → ∃ t1, AStep c I nt ops oj s xj t1 ∧ AStep c I nt ops oi t1 xi s2 := by
    intro h
    refine swap hi hj hap ?_
    simp only [apartB, Bool.and_eq_true, disjB_iff]
    rcases h with ⟨h1, h2⟩ | ⟨h1, h2⟩ <;> simp [h1, h2]
  unfold soft1 at hl
  split at hl
  case h_2 => cases hl
  rename_i Ti xi' ii Tj xj' ij hoi hoj
  obtain ⟨a1, a2, a3⟩ := Oper.apart_spec hap
  obtain ⟨di, hi⟩ := hi
  obtain ⟨dj, hj⟩ := hj
  rcases hi with ⟨wi, hi⟩ | ⟨wi, hi⟩
  case inr => exact skip (.inl ⟨hi.ns, hi.ws⟩)
  rcases hj with ⟨wj, hj⟩ | ⟨wj, hj⟩
  case inr => exact skip (.inr ⟨hj.ns, hj.ws⟩)
  obtain ⟨avi, ui, i1, i2, i3, i4, i5, i6⟩ := hi.did
  have hui := look_upd hoi i1
  subst hui
  have hO1 : lkp s1.O = lkp s.O := by rw [i4, over_nil]
  have hσj : ∀ t ∈ oj.looksAt ops, lkp s.σ t = lkp s1.σ t := fun t ht => by rw [i3, putF_ne (fun e => a1 t e ht)]
  obtain ⟨avj, uj, j1, j2, j3, j4⟩ := hj.at (t := s) (fun d hd => (hσj d (looks_op hd)).symm) (fun n _ => by rw [hO1]) (fun n _ h0 => by rw [hO1] at h0; exact h0)
  obtain ⟨t1, e1, e2⟩ : ∃ t1 : St, lkp t1.σ = putF oj.dst avj (lkp s.σ) ∧ lkp t1.O = over uj (lkp s.O) := by
    refine ⟨⟨match oj.dst with | none => s.σ | some d => (d, avj) :: s.σ, uj ++ s.O⟩, ?_, (over_lkp _ _).symm⟩
    cases oj.dst with
    | none => rfl
    | some d =>
      funext t
      show lkp ((d, avj) :: s.σ) t = _
      rw [lkp_cons]; rfl
  have hdj := j4 t1 e1 e2
  refine ⟨t1, ⟨dj, .inl ⟨wj.congr hσj, hdj⟩⟩, di, ?_⟩
  obtain ⟨av2, u2, k1, k2, k3, k4, k5, k6⟩ := hdj.did
  obtain ⟨n, k, e, t, u, m, key, z, ve, lz, g1, g2, g3, g4⟩ := place_upd hoj k1
  have hOt : lkp t1.O = upd (lkp s.O) n (some (.mp k e t u (mput t key (mget t z key m).1 m))) := by rw [k4, g4, over_cons, over_nil]
  have hn' : lkp t1.O n = some (.mp k e t u (mput t key (mget t z key m).1 m)) := by rw [hOt, upd_same]
  have hoth : ∀ q, q ≠ n → lkp t1.O q = lkp s.O q := fun q hq => by rw [hOt, upd_ne _ _ _ _ hq]
  have hσi : ∀ t ∈ oi.looksAt ops, lkp t1.σ t = lkp s.σ t := fun t ht => by rw [e1, putF_ne (fun e => a3 t e ht)]
  have hnames : namesAt t1.σ t1.O oi = namesAt s.σ s.O oi := by
    rw [namesAt_slots (O := t1.O) (fun d hd => hσi d (looks_op hd))]
    have hb1 : boxOnly s.σ t1.O oi = none := by unfold boxOnly; rw [hoi]
    have hb2 : boxOnly s.σ s.O oi = none := by unfold boxOnly; rw [hoi]
    unfold namesAt
    rw [hb1, hb2]
    refine reach_names ?_ _ _
    intro q
    by_cases hq : q = n
    · subst hq; rw [hn', g1]; rfl
    · rw [hoth q hq]
  refine .inl ⟨wi.congr hσi, ⟨avi, [], ?_, ?_, ?_, ?_, ?_, i6⟩⟩
  · rw [hnames, ← opC_congr (fun d hd => (hσi d (looks_op hd)).symm)]
    exact lookup_soft (T' := Tj) hoi g1 hn' hoth g2 g3 rfl i1
  · rfl
  · rw [j2, i3, e1]; exact (putF_comm a2).symm
  · rw [over_nil, j3, hO1, e2]
  · rw [hnames]; exact i5
/-! ### parts of rows, and slots' values -/
/-- the same but for rows' marks -/
def Fz (O O' : Nat → Option AObj) : Prop := ∀ n, O' n = O n ∨ ∃ e t, ∃ xs : List t.V, ∃ f f', O n = some (.row e t xs f) ∧ O' n = some (.row e t xs f')
theorem Fz.none {O O' : Nat → Option AObj} (h : Fz O O') (n : Nat) : O n = none ↔ O' n = none := by
  rcases h n with h | ⟨e, t, xs, f, f', h1, h2⟩
  · rw [h]
  · rw [h1, h2]; simp
theorem Fz.plain {O O' : Nat → Option AObj} (h : Fz O O') (n : Nat) : plainO (O' n) = plainO (O n) := by
  rcases h n with h | ⟨e, t, xs, f, f', h1, h2⟩
  · rw [h]
  · rw [h1, h2]; rfl
theorem Fz.names {O O' : List (Nat × AObj)} (h : Fz (lkp O) (lkp O')) (n : Nat) : optL (lkp O' n) AObj.names = optL (lkp O n) AObj.names := by
  rcases h n with h | ⟨e, t, xs, f, f', h1, h2⟩
  · rw [h]
  · rw [h1, h2]; rfl
theorem Fz.look {O O' : List (Nat × AObj)} (h : Fz (lkp O) (lkp O')) (ns : List Nat) : Fz (lookIn O ns) (lookIn O' ns) := by
  intro n
  unfold lookIn
  cases memB ns n with
  | false => exact .inl rfl
  | true =>
    simp only [cond_true]
    rcases h n with h | ⟨e, t, xs, f, f', h1, h2⟩
    · rw [h]; exact .inl rfl
    · rw [h1, h2]; exact .inr ⟨e, t, xs, f, f', rfl, rfl⟩
theorem Fz.upd {O O' : List (Nat × AObj)} (h : Fz (lkp O) (lkp O')) (ns : List Nat) (d : Nat) : ∀ u : Upd, updOk O' ns d u = updOk O ns d u
  | [] => rfl
  | (n, x) :: u => by
    simp only [updOk]
    have h1 : (lkp O' n).isNone = (lkp O n).isNone := by
      rw [Bool.eq_iff_iff, Option.isNone_iff_eq_none, Option.isNone_iff_eq_none]; exact (h.none n).symm
    rw [h1, h.plain n, h.upd ns d u]
theorem quiet_names {σ : List (Nat × AV)} {O O' : List (Nat × AObj)} {mt : List TypeId} {o : Oper} (hq : quiet mt o = true) (h : Fz (lkp O) (lkp O')) : namesAt σ O' o = namesAt σ O o := by
  obtain ⟨dst, op, type, pos, after, guard⟩ := o
  have hb : ∀ O, boxOnly σ O ⟨dst, op, type, pos, after, guard⟩ = none := by
    intro O
    unfold quiet at hq
    unfold boxOnly
    cases op <;> first | rfl | cases hq
  unfold namesAt
  rw [hb, hb]
  exact reach_names (fun n => h.names n) _ _
theorem sliceOp_fz {ρ : Type} {lk lk' : Nat → Option AObj} (h : Fz lk lk') (T : TypeId) (hv : memB c.moveT (T + 2000000) = false) (x : Lf) (lo hi : Option AV) (K : AV → Upd → Option ρ) : sliceOp c lk' T x lo hi K = sliceOp c lk T x lo hi K := by
  unfold sliceOp
  split
  · rfl
  · rfl
  · rename_i n
    rcases h n with h | ⟨e, t, xs, f, f', h1, h2⟩
    · rw [h]
    · rw [h1, h2]
      simp only [hv, Bool.and_false, cond_false]
  · rfl
theorem quiet_same {σ : List (Nat × AV)} {lk lk' : Nat → Option AObj} {ns : List Nat} {d : Nat} {o : Oper} (hq : quiet c.moveT o = true) (h : Fz lk lk') : opC c I σ lk' ns d o two = opC c I σ lk ns d o two := by
  obtain ⟨dst, op, type, pos, after, guard⟩ := o
  unfold quiet at hq
  cases op <;> first | cases hq | skip
  · rfl
  · rename_i T x lo hi mx
    rw [Bool.and_eq_true, Bool.not_eq_true', Bool.not_eq_true'] at hq
    obtain ⟨hm, hmv⟩ := hq
    simp only [opC, hm, Bool.false_and, cond_false]
    simp only [sliceOp_fz h T hmv]
theorem quiet_upd {σ : List (Nat × AV)} {O : List (Nat × AObj)} {ns : List Nat} {d : Nat} {o : Oper} {av : AV} {u : Upd} (hq : quiet c.moveT o = true) (h : opC c I σ (lookIn O ns) ns d o two = some (av, u)) :
    u = [] ∨ ∃ n e t, ∃ xs : List t.V, ∃ f, lkp O n = some (.row e t xs f) ∧ u = [(n, .row e t xs true)] := by
  obtain ⟨dst, op, type, pos, after, guard⟩ := o
  unfold quiet at hq
  cases op <;> first | cases hq | skip
  · simp only [opC, Option.bind_eq_some_iff, two, Option.some.injEq, Prod.mk.injEq] at h
    obtain ⟨a, _, _, h2⟩ := h
    exact .inl h2.symm
  · rename_i T x lo hi mx
    rw [Bool.and_eq_true, Bool.not_eq_true', Bool.not_eq_true'] at hq
    obtain ⟨hm, hmv⟩ := hq
    simp only [opC, hm, Bool.false_and, cond_false] at h
    cases hmx : mx.isNone with
    | false => rw [hmx] at h; cases h
    | true =>
      rw [hmx] at h
      simp only [cond_true, Option.bind_eq_some_iff] at h
      obtain ⟨a, _, l, hl0, lv, _, hv, _, h⟩ := h
      clear hl0
      unfold sliceOp at h
      split at h
      · left
        cases hb : strOk c T with
        | false => rw [hb] at h; cases h
        | true =>
          rw [hb] at h
          simp only [cond_true, Option.bind_eq_some_iff, bindD, two, Option.some.injEq, Prod.mk.injEq] at h
          obtain ⟨_, _, _, _, _, _, _, h⟩ := h
          exact h.symm
      · rename_i t xs
        left
        cases hb : eltOk c T t with
        | false => rw [hb] at h; cases h
        | true =>
          rw [hb] at h
          simp only [cond_true, Option.bind_eq_some_iff, bindD, two, Option.some.injEq, Prod.mk.injEq] at h
          obtain ⟨_, _, _, _, _, _, _, h⟩ := h
          exact h.symm
      · rename_i n
        split at h
        · rename_i e t xs f hl
          cases hb : eltOk c T t with
          | false => rw [hb] at h; cases h
          | true =>
            rw [hb] at h
            simp only [hmv, Bool.and_false, cond_false, cond_true, Option.bind_eq_some_iff, bindD, two, Option.some.injEq, Prod.mk.injEq] at h
            obtain ⟨_, _, _, _, _, _, _, h⟩ := h
            refine .inr ⟨n, e, t, xs, f, ?_, h.symm⟩
            unfold lookIn at hl
            cases hm : memB ns n with
            | false => rw [hm] at hl; cases hl
            | true => rw [hm] at hl; exact (fltO_some hl).1
        · cases h
      · cases h
theorem Fz.of_upd {O : Nat → Option AObj} {u : Upd} (h : u = [] ∨ ∃ n e t, ∃ xs : List t.V, ∃ f, O n = some (.row e t xs f) ∧ u = [(n, .row e t xs true)]) : Fz O (over u O) := by
  intro m
  rcases h with rfl | ⟨n, e, t, xs, f, h1, rfl⟩
  · exact .inl rfl
  · rw [over_cons, over_nil]
    by_cases hm : m = n
    · subst hm
      exact .inr ⟨e, t, xs, f, true, h1, upd_same _ _ _⟩
    · exact .inl (upd_ne _ _ _ _ hm)
theorem Fz.symm {O O' : Nat → Option AObj} (h : Fz O O') : Fz O' O := fun n => by
  rcases h n with h | ⟨e, t, xs, f, f', h1, h2⟩
  · exact .inl h.symm
  · exact .inr ⟨e, t, xs, f', f, h2, h1⟩
/-- a change of marks is one of what stood there before others -/
theorem Fz.back {O O' : Nat → Option AObj} (h : Fz O O') {u : Upd} (hu : u = [] ∨ ∃ n e t, ∃ xs : List t.V, ∃ f, O' n = some (.row e t xs f) ∧ u = [(n, .row e t xs true)]) :
    u = [] ∨ ∃ n e t, ∃ xs : List t.V, ∃ f, O n = some (.row e t xs f) ∧ u = [(n, .row e t xs true)] := by
  rcases hu with hu | ⟨n, e, t, xs, f, h1, h2⟩
  · exact .inl hu
  · rcases h n with h | ⟨e', t', xs', f1, f2, g1, g2⟩
    · exact .inr ⟨n, e, t, xs, f, by rw [← h]; exact h1, h2⟩
    · rw [h1] at g2
      cases g2
      exact .inr ⟨n, e, t, xs, f1, g1, h2⟩
theorem quiet_comm {O : Nat → Option AObj} {u v : Upd} (hu : u = [] ∨ ∃ n e t, ∃ xs : List t.V, ∃ f, O n = some (.row e t xs f) ∧ u = [(n, .row e t xs true)])
    (hv : v = [] ∨ ∃ n e t, ∃ xs : List t.V, ∃ f, O n = some (.row e t xs f) ∧ v = [(n, .row e t xs true)]) : over u (over v O) = over v (over u O) := by
  rcases hu with rfl | ⟨n, e, t, xs, f, h1, rfl⟩
  · rfl
  rcases hv with rfl | ⟨m, e', t', xs', f', h2, rfl⟩
  · rfl
  by_cases hnm : n = m
  · subst hnm
    rw [h1] at h2
    cases h2
    rfl
  · exact over_comm (by simpa using hnm)
theorem swap_quiet {oi oj : Oper} {xi xj : Log} {s s1 s2 : St} (hi : AStep c I nt ops oi s xi s1) (hj : AStep c I nt ops oj s1 xj s2) (hap : oi.apart ops oj = true) (hq1 : quiet c.moveT oi = true) (hq2 : quiet c.moveT oj = true) :
    ∃ t1, AStep c I nt ops oj s xj t1 ∧ AStep c I nt ops oi t1 xi s2 := by
  have skip : (xi.ns = [] ∧ xi.ws = []) ∨ (xj.ns = [] ∧ xj.ws = []) → ∃ t1, AStep c I nt ops oj s xj t1 ∧ AStep c I nt ops oi t1 xi s2 := by
    intro h
    refine swap hi hj hap ?_
    simp only [apartB, Bool.and_eq_true, disjB_iff]
    rcases h with ⟨h1, h2⟩ | ⟨h1, h2⟩ <;> simp [h1, h2]
  obtain ⟨a1, a2, a3⟩ := Oper.apart_spec hap
  obtain ⟨di, hi⟩ := hi
  obtain ⟨dj, hj⟩ := hj
  rcases hi with ⟨wi, hi⟩ | ⟨wi, hi⟩
  case inr => exact skip (.inl ⟨hi.ns, hi.ws⟩)
  rcases hj with ⟨wj, hj⟩ | ⟨wj, hj⟩
  case inr => exact skip (.inr ⟨hj.ns, hj.ws⟩)
  obtain ⟨avi, ui, i1, i2, i3, i4, i5, i6⟩ := hi.did
  obtain ⟨avj, uj, j1, j2, j3, j4, j5, j6⟩ := hj.did
  have hui := quiet_upd hq1 i1
  have hf1 : Fz (lkp s.O) (lkp s1.O) := by rw [i4]; exact Fz.of_upd hui
  have huj := hf1.back (quiet_upd hq2 j1)
  have hσj : ∀ t ∈ oj.looksAt ops, lkp s.σ t = lkp s1.σ t := fun t ht => by rw [i3, putF_ne (fun e => a1 t e ht)]
  obtain ⟨t1, e1, e2⟩ : ∃ t1 : St, lkp t1.σ = putF oj.dst avj (lkp s.σ) ∧ lkp t1.O = over uj (lkp s.O) := by
    refine ⟨⟨match oj.dst with | none => s.σ | some d => (d, avj) :: s.σ, uj ++ s.O⟩, ?_, (over_lkp _ _).symm⟩
    cases oj.dst with
    | none => rfl
    | some d =>
      funext t
      show lkp ((d, avj) :: s.σ) t = _
      rw [lkp_cons]; rfl
  have hf2 : Fz (lkp s.O) (lkp t1.O) := by rw [e2]; exact Fz.of_upd huj
  have hσi : ∀ t ∈ oi.looksAt ops, lkp t1.σ t = lkp s.σ t := fun t ht => by rw [e1, putF_ne (fun e => a3 t e ht)]
  have nj : namesAt s1.σ s1.O oj = namesAt s.σ s.O oj := (namesAt_slots (fun d hd => (hσj d (looks_op hd)).symm)).trans (quiet_names hq2 hf1)
  have ni : namesAt t1.σ t1.O oi = namesAt s.σ s.O oi := (namesAt_slots (fun d hd => hσi d (looks_op hd))).trans (quiet_names hq1 hf2)
  refine ⟨t1, ⟨dj, .inl ⟨wj.congr hσj, ⟨avj, uj, ?_, ?_, e1, e2, ?_, j6⟩⟩⟩, di, .inl ⟨wi.congr hσi, ⟨avi, ui, ?_, ?_, ?_, ?_, ?_, i6⟩⟩⟩
  · rw [nj] at j1
    rw [opC_congr (fun d hd => hσj d (looks_op hd)), ← quiet_same hq2 (hf1.look _)]
    exact j1
  · rw [nj, hf1.upd] at j2; exact j2
  · rw [j5, nj]
  · rw [ni, opC_congr (fun d hd => hσi d (looks_op hd)), quiet_same hq1 (hf2.look _)]
    exact i1
  · rw [ni, hf2.upd]; exact i2
  · rw [j3, i3, e1]; exact (putF_comm a2).symm
  · rw [j4, i4, e2]; exact (quiet_comm hui huj).symm
  · rw [i5, ni]
theorem swap_soft {oi oj : Oper} {xi xj : Log} {s s1 s2 : St} (hi : AStep c I nt ops oi s xi s1) (hj : AStep c I nt ops oj s1 xj s2) (hap : oi.apart ops oj = true) (hl : soft2 c.moveT oi oj = true) :
    ∃ t1, AStep c I nt ops oj s xj t1 ∧ AStep c I nt ops oi t1 xi s2 := by
  simp only [soft2, Bool.or_eq_true, Bool.and_eq_true] at hl
  rcases hl with hl | ⟨h1, h2⟩
  · exact swap_soft1 hi hj hap hl
  · exact swap_quiet hi hj hap h1 h2
end
end Go.Proofs.R

/- A region in any order that is allowed; a region in the order of its list. -/
namespace Go.Proofs.R
open Go

/-- what lets a region that draws its order be told in the order of its list -/
def drawOk (ops : Array Oper) : Bool :=
  ops.toList.zipIdx.all fun q => q.1.after.toList.all (fun e => !Region.binds .any e || Nat.blt e.on q.2) &&
    ops.toList.zipIdx.all fun p => !Nat.blt p.2 q.2 || p.1.apart ops q.1 || befB ops p.2 8 q.2

section
variable {P : Program} {c : Ctx} {I : Interp c} {nt : Nat} {ops : Array Oper}

theorem drawOk_spec (h : drawOk ops = true) : (∀ j o, ops[j]? = some o → ∀ e ∈ o.after, Region.binds .any e = true → e.on < j) ∧
    ∀ i j oi oj, ops[i]? = some oi → ops[j]? = some oj → i < j → oi.apart ops oj = true ∨ befB ops i 8 j = true := by
  have hm : ∀ j o, ops[j]? = some o → (o, j) ∈ ops.toList.zipIdx := by
    intro j o ho
    rw [List.mem_zipIdx_iff_getElem?]
    simpa using ho
  simp only [drawOk, List.all_eq_true, Bool.and_eq_true] at h
  constructor
  · intro j o ho e he hb
    have := (h (o, j) (hm j o ho)).1 e (by simpa using he)
    rw [hb] at this
    simp only [Bool.not_true, Bool.false_or] at this
    exact Nat.le_of_ble_eq_true this
  · intro i j oi oj hi hj hij
    have := (h (oj, j) (hm j oj hj)).2 (oi, i) (hm i oi hi)
    have hlt : Nat.blt i j = true := Nat.ble_eq_true_of_le hij
    simp only [hlt, Bool.not_true, Bool.false_or, Bool.or_eq_true] at this
    exact this

def Closed (ops : Array Oper) (listed : Array Bool) : Prop :=
  ∀ j, listed.getD j false = true → ∀ o, ops[j]? = some o → ∀ e ∈ o.after, Region.binds .any e = true → listed.getD e.on false = true

theorem befB_listed {listed : Array Bool} (hc : Closed ops listed) {i : Nat} : ∀ (k j : Nat) (o : Oper), ops[j]? = some o → (∀ e ∈ o.after, Region.binds .any e = true → listed.getD e.on false = true) → befB ops i k j = true → listed.getD i false = true
  | 0, j, o, _, _, h => by simp [befB] at h
  | k + 1, j, o, ho, ha, h => by
    simp only [befB, ho, Bool.or_eq_true, List.any_eq_true, Bool.and_eq_true] at h
    rcases h with ⟨e, he, hb, hi⟩ | ⟨e, he, hb, hi⟩
    · rw [← Nat.eq_of_beq_eq_true hi]; exact ha e (by simpa using he) hb
    · have h1 := ha e (by simpa using he) hb
      cases ho' : ops[e.on]? with
      | none => cases k <;> simp [befB, ho'] at hi
      | some o' => exact befB_listed hc k e.on o' ho' (hc e.on h1 o' ho') hi

/-- in any order -/
def AAny (c : Ctx) (I : Interp c) (nt : Nat) (ops : Array Oper) (L : Nat → Log) (fin : St) : Nat → Array Bool → St → Prop
  | 0, listed, st => Region.ready .any ops listed = [] ∧ Eqv st fin
  | k + 1, listed, st => (Region.ready .any ops listed = [] → Eqv st fin) ∧
      ∀ i ∈ Region.ready .any ops listed, ∀ o, ops[i]? = some o → ∃ st', AStep c I nt ops o st (L i) st' ∧ AAny c I nt ops L fin k (listed.setIfInBounds i true) st'

theorem AAny.first {L : Nat → Log} {fin : St} {i : Nat} {oi : Oper} (hi : ops[i]? = some oi) : ∀ (fuel : Nat) (listed : Array Bool) (s s1 : St), Closed ops listed →
    (∀ j oj, ops[j]? = some oj → j ≠ i → listed.getD j true = false → (oi.apart ops oj = true ∧ (apartB (L j) (L i) = true ∨ soft2 c.moveT oi oj = true)) ∨ befB ops i 8 j = true) →
    i ∈ Region.ready .any ops listed → AStep c I nt ops oi s (L i) s1 → AAny c I nt ops L fin fuel (listed.setIfInBounds i true) s1 → AAny c I nt ops L fin (fuel + 1) listed s := by
  intro fuel
  induction fuel with
  | zero =>
    intro listed s s1 hcl hfree hr hy H
    refine ⟨fun h => (by rw [h] at hr; cases hr), fun j hj oj hoj => ?_⟩
    by_cases hji : j = i
    · subst hji; rw [hi] at hoj; cases hoj; exact ⟨s1, hy, H⟩
    · have := ready_mono hj hji
      rw [H.1] at this
      cases this
  | succ fuel ih =>
    intro listed s s1 hcl hfree hr hy H
    refine ⟨fun h => (by rw [h] at hr; cases hr), fun j hj oj hoj => ?_⟩
    by_cases hji : j = i
    · subst hji; rw [hi] at hoj; cases hoj; exact ⟨s1, hy, H⟩
    · obtain ⟨hjun, oj', hoj', hall⟩ := mem_ready.1 hj
      rw [hoj] at hoj'; cases hoj'
      obtain ⟨s2, h1, h2⟩ := H.2 j (ready_mono hj hji) oj hoj
      have hiun := (mem_ready.1 hr).1
      have hiF : listed.getD i false ≠ true := by
        intro h
        rcases Nat.lt_or_ge i listed.size with h' | h'
        · simp [h'] at h hiun; rw [h] at hiun; cases hiun
        · simp [Array.getElem?_eq_none h'] at h
      have hap := (hfree j oj hoj hji hjun).resolve_right (fun hb => hiF (befB_listed hcl 8 j oj hoj hall hb))
      obtain ⟨t1, h3, h4⟩ := hap.2.elim (fun hq => swap hy h1 hap.1 hq) (fun hq => swap_soft hy h1 hap.1 hq)
      refine ⟨t1, h3, ih (listed.setIfInBounds j true) t1 s2 ?_ ?_ (ready_mono hr (Ne.symm hji)) h4 ?_⟩
      · intro k hk o ho e he hb
        by_cases hkj : j = k
        · subst hkj; rw [hoj] at ho; cases ho
          exact getD_set_true (hall e he hb)
        · rw [getD_set_ne false hkj] at hk
          exact getD_set_true (hcl k hk o ho e he hb)
      · intro k ok hk hki hun
        refine hfree k ok hk hki ?_
        by_cases hjk : j = k
        · subst hjk; exact hjun
        · rw [getD_set_ne true hjk] at hun; exact hun
      · rw [Array.setIfInBounds_comm _ _ hji]
        exact h2

/-- in the order of the list, with these logs -/
def ChainL (c : Ctx) (I : Interp c) (nt : Nat) (ops : Array Oper) (L : Nat → Log) (fin : St) : List Oper → Nat → St → Prop
  | [], _, st => st = fin
  | o :: l, k, st => ∃ st', AStep c I nt ops o st (L k) st' ∧ ChainL c I nt ops L fin l (k + 1) st'

theorem lex_any {L : Nat → Log} {fin : St} (hd : drawOk ops = true) (hL : ∀ i j, i < j → j < ops.size → apartB (L j) (L i) = true ∨ softB c.moveT ops i j = true ∨ befB ops i 8 j = true) : ∀ (l : List Oper) (k : Nat) (listed : Array Bool) (s : St), (∀ j, l[j]? = ops[k + j]?) →
    listed.size = ops.size → (∀ j, j < ops.size → listed.getD j true = decide (j < k) ∧ listed.getD j false = decide (j < k)) → ChainL c I nt ops L fin l k s → AAny c I nt ops L fin l.length listed s
  | [], k, listed, s, hl, hsz, hls, h => by
    refine ⟨?_, by cases h; exact ⟨rfl, rfl⟩⟩
    rw [List.eq_nil_iff_forall_not_mem]
    intro j hj
    obtain ⟨hun, o, ho, _⟩ := mem_ready.1 hj
    have hlt : j < ops.size := (Array.getElem?_eq_some_iff.1 ho).1
    have hk : ops.size ≤ k := by
      have := hl 0
      simp only [List.getElem?_nil, Nat.add_zero] at this
      exact Array.getElem?_eq_none_iff.1 this.symm
    have := (hls j hlt).1
    rw [hun] at this
    have : decide (j < k) = true := by simp; omega
    simp_all
  | o :: l, k, listed, s, hl, hsz, hls, h => by
    obtain ⟨s1, h1, h2⟩ := h
    have h0 : ops[k]? = some o := by simpa using (hl 0).symm
    have hk : k < ops.size := (Array.getElem?_eq_some_iff.1 h0).1
    obtain ⟨d1, d2⟩ := drawOk_spec hd
    refine AAny.first h0 l.length listed s s1 ?_ ?_ ?_ h1 ?_
    · intro j hj oj hoj e he hb
      have hlt : j < ops.size := (Array.getElem?_eq_some_iff.1 hoj).1
      have hlj := (hls j hlt).2
      rw [hj] at hlj
      have hjk : j < k := by simpa using hlj.symm
      have := d1 j oj hoj e he hb
      rw [(hls e.on (by omega)).2]; simp; omega
    · intro j oj hoj hjk hun
      have hlt : j < ops.size := (Array.getElem?_eq_some_iff.1 hoj).1
      have := (hls j hlt).1
      rw [hun] at this
      have hkj : k < j := by have : ¬ j < k := by simpa using this.symm
                             omega
      rcases d2 k j o oj h0 hoj hkj with h3 | h3
      · rcases hL k j hkj hlt with h4 | h4 | h4
        · exact .inl ⟨h3, .inl h4⟩
        · exact .inl ⟨h3, .inr (by unfold softB at h4; rw [h0, hoj] at h4; exact h4)⟩
        · exact .inr h4
      · exact .inr h3
    · refine mem_ready.2 ⟨by rw [(hls k hk).1]; simp, o, h0, fun e he hb => ?_⟩
      have := d1 k o h0 e he hb
      rw [(hls e.on (by omega)).2]; simpa using this
    · refine lex_any hd hL l (k + 1) _ s1 (fun j => by have := hl (j + 1); simpa [Nat.add_assoc, Nat.add_comm 1 j] using this) (by simpa using hsz) ?_ h2
      intro j hj
      by_cases hkj : k = j
      · subst hkj
        have : (listed.setIfInBounds k true)[k]? = some true := by
          rw [Array.getElem?_setIfInBounds_self_of_lt (by omega)]
        simp [this]
      · rw [getD_set_ne true hkj, getD_set_ne false hkj, (hls j hj).1, (hls j hj).2]
        have : (j < k) ↔ (j < k + 1) := by omega
        simp [this]

end
end Go.Proofs.R

/- What is told of a region is so. -/
namespace Go.Proofs.R
open Go

section
variable {P : Program} {c : Ctx} {I : Interp c} {nt : Nat} {ops : Array Oper}

theorem putS_some {dst : Option Nat} {a : AV} {σ σ' : List (Nat × AV)} (h : putS nt dst a σ = some σ') : (∀ d, dst = some d → d < nt) ∧ lkp σ' = putF dst a (lkp σ) := by
  unfold putS at h
  cases dst with
  | none => cases h; exact ⟨by simp, rfl⟩
  | some d =>
    simp only at h
    cases hb : Nat.blt d nt with
    | false => rw [hb] at h; cases h
    | true =>
      rw [hb] at h; cases h
      refine ⟨?_, ?_⟩
      · intro e he; cases he; exact Nat.le_of_ble_eq_true hb
      · funext t; rw [lkp_cons]; rfl

theorem stepOp_some {ρ : Type} {st : St} {i : Nat} {o : Oper} {K : St → Log → Option ρ} {r : ρ} (h : stepOp c I nt st i o K = some r) :
    ∃ st' x, Did c I o st x st' ∧ x.i = i ∧ (∀ d, o.dst = some d → d < nt) ∧ K st' x = some r := by
  unfold stepOp at h
  rw [opC_nat] at h
  simp only [Option.bind_eq_some_iff] at h
  obtain ⟨⟨av, u⟩, h1, h⟩ := h
  simp only at h
  cases hb : updOk st.O (namesAt st.σ st.O o) (o.dst.getD noSlot) u with
  | false => rw [hb] at h; cases h
  | true =>
    rw [hb] at h; simp only [cond_true] at h
    split at h
    · rename_i σ' hσ
      obtain ⟨h2, h3⟩ := putS_some hσ
      exact ⟨_, _, ⟨av, u, h1, hb, h3, (over_lkp _ _).symm, rfl, rfl⟩, rfl, h2, h⟩
    · cases h

theorem Did.eqv {o : Oper} {s t s' : St} {x : Log} (he : Eqv s t) (h : Did c I o s x s') : Did c I o t x s' := by
  obtain ⟨av, u, _, h2, h3, h4⟩ := h.at (t := t) (fun d _ => by rw [he.1]) (fun n _ => by rw [he.2]) (fun n _ h0 => by rw [← he.2]; exact h0)
  exact h4 s' (by rw [← he.1]; exact h2) (by rw [← he.2]; exact h3)

def Chain (c : Ctx) (I : Interp c) (nt : Nat) (ops : Array Oper) (fin : St) : List (Oper × Nat) → List Log → St → Prop
  | [], [], st => st = fin
  | (o, i) :: r, x :: xs, st => x.i = i ∧ ∃ st', AStep c I nt ops o st x st' ∧ Chain c I nt ops fin r xs st'
  | _, _, _ => False

def okB (mt : List TypeId) (ops : Array Oper) (x y : Log) : Prop := apartB x y = true ∨ softB mt ops y.i x.i = true ∨ befB ops y.i 8 x.i = true
def OkL (mt : List TypeId) (ops : Array Oper) : List Log → List Log → Prop
  | _, [] => True
  | log, x :: xs => (∀ y ∈ log, okB mt ops x y) ∧ OkL mt ops (x :: log) xs

theorem OkL.more {y : Log} (h1 : y.ns = []) (h2 : y.ws = []) : ∀ {xs log log' : List Log}, (∀ z ∈ log', z ∈ log ∨ z = y) → OkL c.moveT ops log xs → OkL c.moveT ops log' xs
  | [], _, _, _, _ => trivial
  | x :: xs, log, log', hl, h => by
    refine ⟨?_, OkL.more h1 h2 (xs := xs) ?_ h.2⟩
    · intro z hz
      rcases hl z hz with hz | rfl
      · exact h.1 z hz
      · left
        simp only [apartB, Bool.and_eq_true, disjB_iff, h1, h2]
        simp
    · intro z hz
      rcases List.mem_cons.1 hz with rfl | hz
      · exact .inl List.mem_cons_self
      · exact (hl z hz).imp (List.mem_cons_of_mem _) id

theorem okLog_spec {x : Log} : ∀ {log : List Log}, okLog c.moveT ops x log = true → ∀ y ∈ log, okB c.moveT ops x y
  | [], _, y, hy => by cases hy
  | z :: log, h, y, hy => by
    simp only [okLog, Bool.and_eq_true, Bool.or_eq_true] at h
    rcases List.mem_cons.1 hy with rfl | hy
    · exact h.1
    · exact okLog_spec h.2 y hy

theorem evalOps_chain {ρ : Type} {dr : Bool} {r : ρ} : ∀ {L : List (Oper × Nat)} {st : St} {log : List Log} {K : St → Option ρ}, evalOps c I nt dr ops L st log K = some r →
    ∃ fin xs, Chain c I nt ops fin L xs st ∧ (dr = true → OkL c.moveT ops log xs) ∧ K fin = some r
  | [], st, log, K, h => ⟨st, [], rfl, fun _ => trivial, h⟩
  | (o, i) :: L, st, log, K, h => by
    simp only [evalOps] at h
    split at h
    · rename_i hg
      obtain ⟨st', x, h1, h2, h3, h4⟩ := stepOp_some h
      cases hb : (!dr || okLog c.moveT ops x log) with
      | false => rw [hb] at h4; cases h4
      | true =>
        rw [hb] at h4; simp only [cond_true] at h4
        obtain ⟨fin, xs, h5, h6, h7⟩ := evalOps_chain h4
        refine ⟨fin, x :: xs, ⟨h2, st', ⟨h3, .inl ⟨?_, h1⟩⟩, h5⟩, fun hd => ⟨okLog_spec (by rw [hd] at hb; simpa using hb), h6 hd⟩, h7⟩
        unfold WantA; rw [hg]
    · rename_i j want hg
      split at h
      · rename_i dj g hq
        simp only [Option.bind_eq_some_iff, Option.some.injEq, Prod.mk.injEq] at hq
        obtain ⟨dj', hd, a, ha0, rfl, rfl⟩ := hq
        obtain ⟨hdr, ha⟩ := blt_lkp ha0
        have he : Eqv ⟨(dj', .one (.v .bool g)) :: st.σ, st.O⟩ st := by
          refine ⟨?_, rfl⟩
          funext t
          show lkp ((dj', _) :: st.σ) t = _
          rw [lkp_cons]; split
          · rename_i e; subst e; exact ha.symm
          · rfl
        have hw : WantA ops o st (g == want) := by
          unfold WantA; rw [hg]; exact ⟨dj', Option.bind_eq_some_iff.2 hd, hdr, .inl ⟨g, ha, rfl⟩⟩
        have key : (bif (g == want) then stepOp c I nt ⟨(dj', .one (.v .bool g)) :: st.σ, st.O⟩ i o fun st' x => bif !dr || okLog c.moveT ops x log then evalOps c I nt dr ops L st' (x :: log) K else none
          else match putS nt o.dst (.tup []) ((dj', .one (.v .bool g)) :: st.σ) with
            | some σ' => evalOps c I nt dr ops L ⟨σ', st.O⟩ log K
            | none => none) = some r := by
          cases g <;> exact h
        cases hgw : (g == want) with
        | true =>
          rw [hgw] at key hw; simp only [cond_true] at key
          obtain ⟨st', x, h1, h2, h3, h4⟩ := stepOp_some key
          cases hb : (!dr || okLog c.moveT ops x log) with
          | false => rw [hb] at h4; cases h4
          | true =>
            rw [hb] at h4; simp only [cond_true] at h4
            obtain ⟨fin, xs, h5, h6, h7⟩ := evalOps_chain h4
            exact ⟨fin, x :: xs, ⟨h2, st', ⟨h3, .inl ⟨hw, h1.eqv he⟩⟩, h5⟩, fun hd => ⟨okLog_spec (by rw [hd] at hb; simpa using hb), h6 hd⟩, h7⟩
        | false =>
          rw [hgw] at key hw; simp only [cond_false] at key
          split at key
          · rename_i σ' hσ
            obtain ⟨h2, h3⟩ := putS_some hσ
            obtain ⟨fin, xs, h5, h6, h7⟩ := evalOps_chain key
            refine ⟨fin, ⟨i, [], []⟩ :: xs, ⟨rfl, ⟨σ', st.O⟩, ⟨h2, .inr ⟨hw, ⟨?_, rfl, rfl, rfl⟩⟩⟩, h5⟩, fun hd => ⟨?_, ?_⟩, h7⟩
            · rw [h3, he.1]
            · intro y _
              left
              simp [apartB, disjB_iff, disjB]
            · exact OkL.more rfl rfl (fun z hz => (List.mem_cons.1 hz).symm) (h6 hd)
          · cases key
      · rename_i dj hq
        simp only [Option.bind_eq_some_iff, Option.some.injEq, Prod.mk.injEq] at hq
        obtain ⟨dj', hd, a, ha0, rfl, rfl⟩ := hq
        obtain ⟨hdr, ha⟩ := blt_lkp ha0
        have hw : WantA ops o st false := by
          unfold WantA; rw [hg]; exact ⟨dj', Option.bind_eq_some_iff.2 hd, hdr, .inr ⟨ha, rfl⟩⟩
        split at h
        · rename_i σ' hσ
          obtain ⟨h2, h3⟩ := putS_some hσ
          obtain ⟨fin, xs, h5, h6, h7⟩ := evalOps_chain h
          refine ⟨fin, ⟨i, [], []⟩ :: xs, ⟨rfl, ⟨σ', st.O⟩, ⟨h2, .inr ⟨hw, ⟨h3, rfl, rfl, rfl⟩⟩⟩, h5⟩, fun hd => ⟨?_, ?_⟩, h7⟩
          · intro y _
            left
            simp [apartB, disjB_iff, disjB]
          · exact OkL.more rfl rfl (fun z hz => (List.mem_cons.1 hz).symm) (h6 hd)
        · cases h
      · cases h

theorem Chain.len {fin : St} : ∀ {L : List (Oper × Nat)} {xs : List Log} {st : St}, Chain c I nt ops fin L xs st → xs.length = L.length
  | [], [], _, _ => rfl
  | _ :: L, _ :: xs, _, ⟨_, _, _, h⟩ => by simp [Chain.len h]
  | [], _ :: _, _, h => by simp [Chain] at h
  | _ :: _, [], _, h => by simp [Chain] at h

theorem Chain.idx {fin : St} : ∀ {l : List Oper} {k : Nat} {xs : List Log} {st : St}, Chain c I nt ops fin (l.zipIdx k) xs st → ∀ j x, xs[j]? = some x → x.i = k + j
  | [], _, [], _, _, j, x, hx => by simp at hx
  | [], _, _ :: _, _, h, _, _, _ => by simp [Chain] at h
  | _ :: _, _, [], _, _, j, x, hx => by simp at hx
  | o :: l, k, y :: xs, st, h, j, x, hx => by
    rw [List.zipIdx_cons] at h
    obtain ⟨h1, st', _, h2⟩ := h
    cases j with
    | zero => simp at hx; subst hx; simpa using h1
    | succ j => rw [Chain.idx h2 j x (by simpa using hx)]; omega

theorem Chain.toL {fin : St} {XS : List Log} : ∀ {l : List Oper} {k : Nat} {xs : List Log} {st : St}, Chain c I nt ops fin (l.zipIdx k) xs st → (∀ j, xs[j]? = XS[k + j]?) → ChainL c I nt ops (fun j => (XS[j]?).getD ⟨0, [], []⟩) fin l k st
  | [], _, [], _, h, _ => h
  | [], _, _ :: _, _, h, _ => by simp [Chain] at h
  | _ :: _, _, [], _, h, _ => by simp [Chain] at h
  | o :: l, k, y :: xs, st, h, hx => by
    rw [List.zipIdx_cons] at h
    obtain ⟨h1, st', h3, h2⟩ := h
    refine ⟨st', ?_, Chain.toL h2 (fun j => by have := hx (j + 1); simpa [Nat.add_assoc, Nat.add_comm 1 j] using this)⟩
    have := hx 0
    simp only [List.getElem?_cons_zero, Nat.add_zero] at this
    show AStep c I nt ops o st ((XS[k]?).getD ⟨0, [], []⟩) st'
    rw [← this]; exact h3

theorem OkL.pair : ∀ {xs log : List Log}, OkL c.moveT ops log xs → (∀ y ∈ log, ∀ (j : Nat) (x : Log), xs[j]? = some x → okB c.moveT ops x y) ∧ ∀ (i j : Nat) (x y : Log), i < j → xs[i]? = some y → xs[j]? = some x → okB c.moveT ops x y
  | [], _, _ => ⟨fun _ _ _ _ h => by simp at h, fun _ _ _ _ _ h => by simp at h⟩
  | z :: xs, log, h => by
    obtain ⟨h1, h2⟩ := OkL.pair h.2
    refine ⟨?_, ?_⟩
    · intro y hy j x hx
      cases j with
      | zero => simp at hx; subst hx; exact h.1 y hy
      | succ j => exact h1 y (List.mem_cons_of_mem _ hy) j x (by simpa using hx)
    · intro i j x y hij hy hx
      cases j with
      | zero => omega
      | succ j =>
        cases i with
        | zero => simp at hy; subst hy; exact h1 z List.mem_cons_self j x (by simpa using hx)
        | succ i => exact h2 i j x y (by omega) (by simpa using hy) (by simpa using hx)

/-! ### in memory -/
theorem size_put {a : Act} {d : Option Nat} {v : Value} : (a.put d v).tmps.size = a.tmps.size := by
  cases d <;> simp [Act.put]
theorem defers_put {a : Act} {d : Option Nat} {v : Value} : (a.put d v).defers = a.defers := by
  cases d <;> rfl

theorem Slots.put {p : RP} {σ : Nat → Option AV} {a : Act} {d : Option Nat} {av : AV} {v : Value} (hs : Slots p σ a.tmps) (hd : ∀ e, d = some e → e < a.tmps.size) (hv : RelAV p av v) : Slots p (putF d av σ) (a.put d v).tmps := by
  intro e x he
  cases d with
  | none => exact hs e x he
  | some d =>
    have hlt := hd d rfl
    unfold putF upd at he
    simp only at he
    have hsz : (a.put (some d) v).tmps.size = a.tmps.size := by simp [Act.put]
    split at he
    · rename_i e1; subst e1; cases he
      unfold slotV
      rw [if_pos (by rw [hsz]; exact hlt)]
      simp [Act.put, hlt]; exact hv
    · rename_i hne
      have := hs e x he
      have h2 : slotV p (a.put (some d) v).tmps e = slotV p a.tmps e := by
        unfold slotV
        rw [hsz]
        simp [Act.put, Array.getElem?_setIfInBounds_ne (Ne.symm hne)]
      rw [h2]; exact this

theorem updOk_new {O : List (Nat × AObj)} {ns : List Nat} {d : Nat} : ∀ {u : Upd}, updOk O ns d u = true → ∀ n o', (n, o') ∈ u → n / 8 = d → n % 8 < 5 → lkp O n = none
  | [], _, _, _, h, _, _ => by cases h
  | (m, x) :: u, hu, n, o', h, h1, h2 => by
    simp only [updOk, Bool.and_eq_true] at hu
    rcases List.mem_cons.1 h with h | h
    · have e : n = m := congrArg Prod.fst h
      rw [e] at h1 h2 ⊢
      have h3 : Nat.beq (m / 8) d = true := by rw [h1]; simp
      have h4 : Nat.blt (m % 8) 5 = true := Nat.ble_eq_true_of_le h2
      have := hu.1.1
      rw [h3, h4] at this
      simpa using this
    · exact updOk_new hu.2 n o' h h1 h2

theorem yielded_of {p : RP} {a : Act} {σ : Nat → Option AV} (hs : Slots p σ a.tmps) {j dj : Nat} {g : Bool} (hdr : dj < rootBase) (h1 : (ops[j]?).bind (·.dst) = some dj) (h2 : σ dj = some (.one (.v .bool g))) : yielded ops a.tmps j = some g := by
  have := rel_bool (hs.at hdr h2)
  unfold yielded
  rw [h1]
  simp only [Option.bind_some]
  cases ht : a.tmps[dj]? with
  | none => simp [ht, undef] at this
  | some v => simp [ht] at this; subst this; rfl

theorem yielded_tup {p : RP} {a : Act} {σ : Nat → Option AV} (hs : Slots p σ a.tmps) {j dj : Nat} (hdr : dj < rootBase) (h1 : (ops[j]?).bind (·.dst) = some dj) (h2 : σ dj = some (.tup [])) : yielded ops a.tmps j = none := by
  obtain ⟨ws, h3, h4⟩ := hs.at hdr h2
  unfold yielded
  rw [h1]
  simp only [Option.bind_some]
  cases ht : a.tmps[dj]? with
  | none => rfl
  | some v => simp [ht] at h3; subst h3; rfl

theorem step_ok (hE : EnvOk P c) (hI : Snd P c I) {F : Fr} {s s' : St} {x : Log} {o : Oper} {i : Nat} {a : Act} {w : World} {K : Act → World → Prop} {Q : Exit → Act → World → Prop} (h : AStep c I nt ops o s x s') (hi : ops[i]? = some o) (hg : Good F nt s a w)
    (hK : ∀ a' w', Good F nt s' a' w' → K a' w') : wpOp P ops Q i K a w := by
  obtain ⟨hd, h⟩ := h
  obtain ⟨S, β, Om, hc, hs, hvw, hfl, hsz, hdf⟩ := hg
  have hwant : ∀ b, WantA ops o s b → Region.wanted o (yielded ops a.tmps) = b := by
    intro b hw
    unfold WantA at hw
    unfold Region.wanted
    split at hw
    · rename_i hg; rw [hg, hw]
    · rename_i j want hg
      obtain ⟨dj, h1, hdr, h2⟩ := hw
      rw [hg]
      rcases h2 with ⟨g, h2, rfl⟩ | ⟨h2, rfl⟩
      · simp only [yielded_of hs hdr h1 h2]
        cases g <;> cases want <;> rfl
      · simp only [yielded_tup hs hdr h1 h2]
        rfl
  unfold wpOp
  simp only [hi]
  rcases h with ⟨hw, h⟩ | ⟨hw, h⟩
  · rw [if_pos (hwant _ hw)]
    left
    obtain ⟨av, u, h1, h2, h3, h4, _, _⟩ := h.did
    refine opC_sound hE hI hc hs (lk := lookIn s.O (namesAt s.σ s.O o)) ?_ ?_ h1 (fun n o' hm e1 e2 => hvw.none (updOk_plain h2 n o' hm).2.2 (updOk_new h2 n o' hm e1 e2)) ?_
    · intro n o' hl
      unfold lookIn at hl
      cases hb : memB (namesAt s.σ s.O o) n with
      | false => rw [hb] at hl; cases hl
      | true => rw [hb] at hl; exact hvw.at hl
    · intro n o' hl
      unfold lookIn at hl
      cases hb : memB (namesAt s.σ s.O o) n with
      | false => rw [hb] at hl; cases hl
      | true => exact memB_iff.1 hb
    · intro S' β' w' v hc' le hv
      refine hK _ _ ⟨S', β', _, hc', ?_, by rw [h4]; exact hvw.over (updOk_plain h2), by rw [h4]; exact hfl.over fun n o hm => (updOk_plain h2 n o hm).2.1, by rw [size_put, hsz], by rw [defers_put, hdf]⟩
      rw [h3]
      exact (hs.le le).put (fun e he => by rw [hsz]; exact hd e he) hv
  · rw [hwant _ hw]
    simp only [Bool.false_eq_true, if_false]
    refine hK _ _ ⟨S, β, Om, hc, ?_, by rw [h.O]; exact hvw, by rw [h.O]; exact hfl, by rw [size_put, hsz], by rw [defers_put, hdf]⟩
    rw [h.σ]
    exact hs.put (fun e he => by rw [hsz]; exact hd e he) ⟨#[], rfl, rfl⟩

theorem any_ok (hE : EnvOk P c) (hI : Snd P c I) {F : Fr} {L : Nat → Log} {fin : St} {Q : Exit → Act → World → Prop} (hQ : ∀ a w, Good F nt fin a w → Q .normal a w) : ∀ (fuel : Nat) (listed : Array Bool) (s : St) (a : Act) (w : World), AAny c I nt ops L fin fuel listed s → Good F nt s a w →
    wpAny P .any ops Q fuel listed a w
  | 0, _, _, _, _, h, hg => ⟨h.1, hQ _ _ (hg.eqv h.2)⟩
  | fuel + 1, listed, s, a, w, h, hg => by
    refine ⟨fun h0 => hQ _ _ (hg.eqv (h.1 h0)), fun i hi => ?_⟩
    obtain ⟨_, o, ho, _⟩ := mem_ready.1 hi
    obtain ⟨s', h1, h2⟩ := h.2 i hi o ho
    exact step_ok hE hI h1 ho hg (fun a' w' hg' => any_ok hE hI hQ fuel _ s' a' w' h2 hg')

theorem chain_ok (hE : EnvOk P c) (hI : Snd P c I) {F : Fr} {fin : St} {Q : Exit → Act → World → Prop} (hQ : ∀ a w, Good F nt fin a w → Q .normal a w) : ∀ (l : List Oper) (k : Nat) (xs : List Log) (s : St) (a : Act) (w : World), (∀ j, l[j]? = ops[k + j]?) → Chain c I nt ops fin (l.zipIdx k) xs s → Good F nt s a w →
    wpOps P ops Q (List.range' k l.length) a w
  | [], k, [], s, a, w, _, h, hg => by cases h; exact hQ _ _ hg
  | [], _, _ :: _, _, _, _, _, h, _ => by simp [Chain] at h
  | _ :: _, _, [], _, _, _, _, h, _ => by simp [Chain] at h
  | o :: l, k, x :: xs, s, a, w, hl, h, hg => by
    rw [List.zipIdx_cons] at h
    obtain ⟨_, s', h1, h2⟩ := h
    rw [List.length_cons, List.range'_succ, wpOps_cons]
    have h0 : ops[k]? = some o := by simpa using (hl 0).symm
    exact step_ok hE hI h1 h0 hg (fun a' w' hg' => chain_ok hE hI hQ l (k + 1) xs s' a' w' (fun j => by have := hl (j + 1); simpa [Nat.add_assoc, Nat.add_comm 1 j] using this) h2 hg')

/-- a walk's step over a map, whichever entry the tape says -/
theorem nextMap_ok (hE : EnvOk P c) {F : Fr} {s : St} {a : Act} {w : World} {o : Oper} {it : Operand} (ho : o.op = .next it false) {Kn : Act → World → Prop} {Q : Exit → Act → World → Prop} {ρ : Type} {r : ρ} {K : St → Option ρ}
    (h : nextMap c nt s it o.dst K = some r) (hg : Good F nt s a w) (hK : ∀ s' a' w', Good F nt s' a' w' → K s' = some r → Kn a' w') : o.wp P a w Kn Q := by
  obtain ⟨S, β, Om, hc, hs, hvw, hfl, hsz, hdf⟩ := hg
  unfold nextMap at h
  split at h
  case h_2 => cases h
  rename_i n hit
  split at h
  case h_2 => cases h
  rename_i m k seen hO
  split at h
  case h_2 => cases h
  rename_i kT eT t u l hM
  cases hb : plainK t && scal u with
  | false => rw [hb] at h; cases h
  | true =>
  rw [hb] at h; simp only [cond_true] at h
  simp only [Bool.and_eq_true] at hb
  obtain ⟨hlen, hmore, hdone⟩ := eachB_some.1 h
  have hO0 := hO
  have hO : Om n = some (.miter (.mp m) k seen) := hvw.at (by rw [hO0]; rfl)
  have hM : Om m = some (.mp kT eT t u l) := hvw.at (by rw [hM]; rfl)
  obtain ⟨b, bm, h1, h2, h3⟩ := hc.obj n _ hO
  obtain ⟨bm', es, clock, h4, h5, hent, hclk, hborn⟩ := hc.obj m _ hM
  unfold RelL at h3
  rw [show (F.rp S β Om w).O m = some (.mp kT eT t u l) from hM] at h3
  obtain ⟨bm2, h6, h7⟩ := h3
  simp only [List.cons.injEq, Value.map.injEq, Option.some.injEq, and_true] at h7
  subst h7
  rw [h4] at h6; simp only [Option.some.injEq, Prod.mk.injEq, and_true] at h6; subst h6
  simp only [Fr.rp] at h1 h2 h4 h5
  have hv := gv_rel hE hs hit
  rcases hv with hv | hv
  · cases hv
  unfold RelL at hv
  rw [show (F.rp S β Om w).O n = some (.miter (.mp m) k seen) from hO] at hv
  obtain ⟨b', hb', hv⟩ := hv
  simp only [Fr.rp] at hb'
  rw [h1] at hb'; simp only [Option.some.injEq, Prod.mk.injEq, and_true] at hb'; subst hb'
  simp only [List.cons.injEq, and_true] at hv
  have hel : es.size = l.length := by
    have := congrArg List.length hent
    simpa using this
  have hcl : clock = k := by omega
  subst hcl
  have hold : ∀ x ∈ es.toList, x.born < clock := by
    intro x hx
    obtain ⟨j, hj⟩ := List.mem_iff_getElem?.1 hx
    have hj : es[j]? = some x := by simpa using hj
    have := hborn j x hj
    have := (Array.getElem?_eq_some_iff.1 hj).1
    omega
  rcases run_next_at (P := P) w o.type b bm' clock clock seen.toArray es clock h2 h5 hold (Nat.le_refl _) with ⟨h8, h9⟩ | ⟨e, he, w1, hw1, h9⟩
  · have hno : ¬ ∃ j, j < clock ∧ j ∉ seen := by
      rintro ⟨j, hj, hjs⟩
      have hj' : j < es.size := by omega
      have hm : es[j] ∈ leftOf es seen.toArray := by
        unfold leftOf
        rw [Array.mem_filter]
        refine ⟨Array.getElem_mem hj', ?_⟩
        rw [hborn j _ (Array.getElem?_eq_getElem hj')]
        simpa using hjs
      rw [Array.eq_empty_of_size_eq_zero h8] at hm
      simp at hm
    have hd := hdone hno
    split at hd
    · rename_i σ' hσ
      obtain ⟨g1, g2⟩ := putS_some hσ
      refine wp_value (v := .tuple #[.bool false]) (w' := w) ?_ (hK ⟨σ', s.O⟩ _ _ ⟨S, β, Om, hc, ?_, hvw, hfl, by rw [size_put, hsz], by rw [defers_put, hdf]⟩ hd)
      · simp [execOp, ho, hv, h9]
      · rw [g2]
        exact hs.put (fun e he => by rw [hsz]; exact g1 e he) ⟨_, rfl, _, _, rfl, ⟨_, rfl, .inr rfl⟩, rfl⟩
    · cases hd
  · unfold leftOf at he
    simp only [Array.toList_filter, List.mem_filter] at he
    obtain ⟨he1, he2⟩ := he
    obtain ⟨j, hj⟩ := List.mem_iff_getElem?.1 he1
    have hj' : es[j]? = some e := by simpa using hj
    have hbj := hborn j e hj'
    have hjl : j < l.length := by
      have := (Array.getElem?_eq_some_iff.1 hj').1
      omega
    have hjs : j ∉ seen := by
      rw [← hbj]; simpa using he2
    have hx : l[j]? = some l[j] := List.getElem?_eq_getElem hjl
    have hkv : some e.key = plainV t l[j].1 ∧ some e.val = plainV u l[j].2 := by
      have := congrArg (fun q => q[j]?) hent
      simp only [List.getElem?_map, hj, hx, Option.map_some, Option.some.injEq, Prod.mk.injEq] at this
      exact this
    have hd := hmore ⟨j, by omega, hjs⟩ j _ hx hjs
    split at hd
    · rename_i σ' hσ
      obtain ⟨g1, g2⟩ := putS_some hσ
      have hw2 : ∃ dn, w.drawn ≤ dn ∧ w1 = { w with drawn := dn } := by
        rcases hw1 with rfl | rfl
        · exact ⟨w1.drawn, Nat.le_refl _, rfl⟩
        · exact ⟨_, Nat.le_succ _, rfl⟩
      obtain ⟨dn, hdn, rfl⟩ := hw2
      obtain ⟨c1, l1⟩ := hc.redrawn dn hdn
      obtain ⟨c2, l2⟩ := c1.writeObj hO rfl (o' := .miter (.mp m) clock (seenAdd seen j)) (.inr ⟨_, _, _, rfl⟩) rfl h1 (by intro e t xs hh; cases hh) (by intro e t xs hh; cases hh) (.mapIter (some bm') clock (seen.toArray.push e.born) clock) (by
        intro q le hqb hqw
        refine ⟨b, bm', by rw [hqb]; exact h1, ?_, ?_⟩
        · rw [hqw]
          have : (seenAdd seen j).toArray = seen.toArray.push e.born := by rw [hbj]; simp [seenAdd]
          rw [this]
          exact Array.getElem?_setIfInBounds_self_of_lt (Array.getElem?_eq_some_iff.1 h2).1
        · refine RelL_le le _ (RelL_le l1 _ ?_)
          unfold RelL
          rw [show (F.rp S β Om w).O m = some (.mp kT eT t u l) from hM]
          exact ⟨bm', h4, rfl⟩)
      refine wp_value (v := .tuple #[.bool true, e.key, e.val]) (w' := ChangeMaps.setBlock { w with drawn := dn } b (.mapIter (some bm') clock (seen.toArray.push e.born) clock)) ?_
        (hK ⟨σ', (n, .miter (.mp m) clock (seenAdd seen j)) :: s.O⟩ _ _ ⟨S, β, _, c2, ?_, ?_, ?_, by rw [size_put, hsz], by rw [defers_put, hdf]⟩ hd)
      · simp [execOp, ho, hv, h9]
      · show Slots _ (lkp σ') _
        rw [g2]
        refine ((hs.le l1).le l2).put (fun e he => by rw [hsz]; exact g1 e he) ⟨_, rfl, ?_⟩
        refine ⟨_, _, rfl, ⟨_, rfl, .inr rfl⟩, _, _, rfl, plain_leaves hb.1 hkv.1.symm, _, _, rfl, ⟨_, rfl, .inr ?_⟩, rfl⟩
        have hs2 := hkv.2.symm
        have hu := hb.2
        unfold RelL
        cases u <;> first | (simp only [plainV, Option.some.injEq] at hs2; rw [← hs2]; rfl) | cases hu
      · have h7 := hvw.over (u := [(n, AObj.miter (.mp m) clock (seenAdd seen j))]) (by
          intro q o' hq
          simp only [List.mem_cons, List.not_mem_nil, or_false, Prod.mk.injEq] at hq
          obtain ⟨rfl, rfl⟩ := hq
          exact ⟨by rw [hO0]; rfl, rfl, hvw.small _ _ hO0⟩)
        rw [over_lkp, over_cons, over_nil] at h7
        exact h7
      · have h7 := hfl.over (u := [(n, AObj.miter (.mp m) clock (seenAdd seen j))]) (by
          intro q o' hq
          simp only [List.mem_cons, List.not_mem_nil, or_false, Prod.mk.injEq] at hq
          obtain ⟨rfl, rfl⟩ := hq
          rfl)
        rw [over_lkp] at h7
        exact h7
    · cases hd

end
end Go.Proofs.R

/- Rows of rows, each of them the call's own: what is told of a region that touches them is so. -/
namespace Go.Proofs.R
open Go

section
variable {P : Program} {c : Ctx} {I : Interp c} {nt : Nat} {ops : Array Oper}

/-- the slot that something is lent to, the row, the place in the row -/
def _root_.Go.Proofs.R.RSt.lends : RSt → Option (Nat × Int × Option Int)
  | .lent d i | .lentO d i => some (d, i, none)
  | .atO d i j => some (d, i, some j)
  | _ => none
theorem lends_slotD {s : RSt} {d : Nat} {i : Int} {jo : Option Int} (h : s.lends = some (d, i, jo)) : s.slotD = some d := by
  cases s <;> simp [RSt.lends] at h <;> simp [RSt.slotD, h]
def hidL (q : Nat) : Option Int → Lf
  | none => .row q
  | some j => .eref q j 0
/-- what is lent to a slot lies there -/
def LentOk (O Om : Nat → Option AObj) (p : RP) (tmps : Array Value) : Prop :=
  ∀ n e e' t xss s d i jo, O n = some (.rows e e' t xss s) → s.lends = some (d, i, jo) → 0 ≤ i ∧ ∃ hs q, Om n = some (.lrow e hs) ∧ hs[i.toNat]? = some q ∧ RelL p (hidL q jo) [tmps.getD d undef]

def GoodR (F : Fr) (nt : Nat) (st : St) (a : Act) (w : World) : Prop :=
  ∃ S β Om, Core F S β Om w ∧ Slots (F.rp S β Om w) (lkp st.σ) a.tmps ∧ View (lkp st.O) Om ∧ LentOk (lkp st.O) Om (F.rp S β Om w) a.tmps ∧ a.tmps.size = nt ∧ a.defers = []

theorem Good.toR {F : Fr} {st : St} {a : Act} {w : World} (h : Good F nt st a w) : GoodR F nt st a w := by
  obtain ⟨S, β, Om, h1, h2, h3, h4, h5, h6⟩ := h
  refine ⟨S, β, Om, h1, h2, h3, ?_, h5, h6⟩
  intro n e e' t xss s d i jo hn hl
  rcases h4 n _ _ _ _ _ hn with rfl | rfl <;> cases hl

theorem fullO_plain {o : AObj} (h : plainN o = true) : fullO o = o := by cases o <;> first | rfl | cases h
theorem lkp_map {α β : Type} (f : α → β) (n : Nat) : ∀ l : List (Nat × α), lkp (l.map fun p => (p.1, f p.2)) n = (lkp l n).map f
  | [] => rfl
  | (m, a) :: l => by
    rw [List.map_cons, lkp_cons, lkp_cons, lkp_map f n l]
    split <;> rfl
theorem GoodR.full {F : Fr} {st : St} {a : Act} {w : World} (h : GoodR F nt st a w) (hn : noHole st.O = true) : Good F nt ⟨st.σ, fullAll st.O⟩ a w := by
  obtain ⟨S, β, Om, h1, h2, h3, h4, h5, h6⟩ := h
  have hl : ∀ n, lkp (fullAll st.O) n = (lkp st.O n).map fullO := fun n => lkp_map fullO n st.O
  have hhole : ∀ n e e' t xss i, lkp st.O n ≠ some (.rows e e' t xss (.hole i)) := by
    intro n e e' t xss i hh
    unfold noHole at hn
    rw [List.all_eq_true] at hn
    have := hn _ (lkp_mem hh)
    rw [hh] at this; cases this
  refine ⟨S, β, Om, h1, h2, ⟨?_, ?_, ?_, ?_, h3.apart, h3.bound, h3.hid⟩, ?_, h5, h6⟩
  · intro n o ho
    rw [hl] at ho
    simp only [Option.map_eq_some_iff] at ho
    obtain ⟨o2, h7, _⟩ := ho
    exact h3.small n o2 h7
  · intro n hb hp
    rw [hl] at hp ⊢
    cases ho : lkp st.O n with
    | none => rw [h3.plain n hb (by rw [ho]; rfl), ho]; rfl
    | some o =>
      rw [ho] at hp
      have hpo : plainN o = true := by
        have hp : plainN (fullO o) = true := hp
        cases o with
        | rows e e' t xss s => cases s <;> exact (Bool.false_ne_true hp).elim
        | lrow e hs => exact (Bool.false_ne_true hp).elim
        | _ => rfl
      rw [h3.plain n hb (by rw [ho]; exact hpo), ho]
      simp [fullO_plain hpo]
  · intro n e e' t xss s hr
    rw [hl] at hr
    simp only [Option.map_eq_some_iff] at hr
    obtain ⟨o, h7, h8⟩ := hr
    cases o <;> first | cases h8 | skip
    rename_i e2 e2' t2 xss2 s2
    have hs2 : ∀ s3 : RSt, s3.fz = s2.fz → ∃ hs, Om n = some (.lrow e2 hs) ∧ HsOk Om hs e2' t2 xss2 s3 := by
      intro s3 hfz
      obtain ⟨hs, g1, g2, g3, g4⟩ := h3.rows n _ _ _ _ _ h7
      refine ⟨hs, g1, g2, g3, fun i q xs hq hx => ?_⟩
      obtain ⟨g5, g6⟩ := g4 i q xs hq hx
      refine ⟨g5, fun _ => ?_⟩
      rw [hfz]
      refine g6 ?_
      rintro rfl
      exact hhole n _ _ _ _ _ h7
    cases s2 with
    | full => cases h8; exact hs2 _ rfl
    | lent d i => cases h8; exact hs2 _ rfl
    | hole i => exact (hhole n _ _ _ _ _ h7).elim
    | own => cases h8; exact hs2 _ rfl
    | lentO d i => cases h8; exact hs2 _ rfl
    | atO d i j => cases h8; exact hs2 _ rfl
  · intro n e hs hh
    rw [hl] at hh
    simp only [Option.map_eq_some_iff] at hh
    obtain ⟨o, h7, h8⟩ := hh
    cases o with
    | rows e e' t xss s => cases s <;> cases h8
    | lrow e hs => exact h3.lrow n _ _ h7
    | _ => cases h8
  · intro n e e' t xss s hr
    rw [hl] at hr
    simp only [Option.map_eq_some_iff] at hr
    obtain ⟨o, h7, h8⟩ := hr
    cases o <;> first | cases h8 | skip
    rename_i e2 e2' t2 xss2 s2
    cases s2 with
    | full => cases h8; exact .inl rfl
    | lent d i => cases h8; exact .inl rfl
    | hole i => exact (hhole n _ _ _ _ _ h7).elim
    | own => cases h8; exact .inr rfl
    | lentO d i => cases h8; exact .inr rfl
    | atO d i j => cases h8; exact .inr rfl

theorem free_spec {O : List (Nat × AObj)} {dst : Option Nat} (h : freeSlot O dst = true) : ∀ n e e' t xss s d, lkp O n = some (.rows e e' t xss s) → s.slotD = some d → dst ≠ some d := by
  intro n e e' t xss s d hn hd
  unfold freeSlot at h
  rw [List.all_eq_true] at h
  have := h _ (lkp_mem hn)
  simp only [hn] at this
  rintro rfl
  simp [hd] at this

theorem getD_put {a : Act} {dst : Option Nat} {v : Value} {d : Nat} (h : dst ≠ some d) : (a.put dst v).tmps.getD d undef = a.tmps.getD d undef := by
  cases dst with
  | none => rfl
  | some e =>
    have : e ≠ d := fun h2 => h (by rw [h2])
    simp [Act.put, Array.getElem?_setIfInBounds_ne this]

/-- what is lent stays, as memory goes on -/
theorem LentOk.go {O Om Om' : Nat → Option AObj} {p q : RP} {a : Act} {dst : Option Nat} {v : Value} (h : LentOk O Om p a.tmps) (le : p.le q) (hd : ∀ n e e' t xss s d, O n = some (.rows e e' t xss s) → s.slotD = some d → dst ≠ some d)
    (hOm : ∀ n e hs, Om n = some (.lrow e hs) → Om' n = some (.lrow e hs)) : LentOk O Om' q (a.put dst v).tmps := by
  intro n e e' t xss s d i jo hn hl
  obtain ⟨h0, hs, r, h1, h2, h3⟩ := h n e e' t xss s d i jo hn hl
  refine ⟨h0, hs, r, hOm _ _ _ h1, h2, ?_⟩
  rw [getD_put (hd n e e' t xss s d hn (lends_slotD hl))]
  exact RelL_le le _ h3

theorem lrow_over {O Om : Nat → Option AObj} (h : View O Om) {u : Upd} (hu : ∀ n o, (n, o) ∈ u → plainO (O n) = true ∧ plainN o = true ∧ n < bigName) (n : Nat) (e : TypeId) (hs : List Nat) (hn : Om n = some (.lrow e hs)) : over u Om n = some (.lrow e hs) := by
  rw [over_eq]
  cases hl : lkp u n with
  | none => exact hn
  | some x =>
    obtain ⟨h1, _, h3⟩ := hu n x (lkp_mem hl)
    rw [h.plain n h3 h1] at hn
    exact (h.lrow n e hs hn).elim

theorem plainOp_ok (hE : EnvOk P c) (hI : Snd P c I) {F : Fr} {s : St} {a : Act} {w : World} {o : Oper} {Kn : Act → World → Prop} {Q : Exit → Act → World → Prop} {ρ : Type} {r : ρ} {K : St → Option ρ}
    (h : plainOp c I nt s o K = some r) (hg : GoodR F nt s a w) (hK : ∀ s' a' w', GoodR F nt s' a' w' → K s' = some r → Kn a' w') : o.wp P a w Kn Q := by
  obtain ⟨S, β, Om, hc, hs, hvw, hlo, hsz, hdf⟩ := hg
  unfold plainOp at h
  cases hfr : freeSlot s.O o.dst with
  | false => rw [hfr] at h; cases h
  | true =>
  rw [hfr] at h; simp only [cond_true] at h
  rw [opC_nat] at h
  simp only [Option.bind_eq_some_iff] at h
  obtain ⟨⟨av, u⟩, h1, h⟩ := h
  cases hb : updOk s.O (namesAt s.σ s.O o) (o.dst.getD noSlot) u with
  | false => simp only [hb] at h; cases h
  | true =>
  simp only [hb, cond_true] at h
  split at h
  case h_2 => cases h
  rename_i σ' hσ
  obtain ⟨g1, g2⟩ := putS_some hσ
  refine opC_sound hE hI hc hs (lk := lookIn s.O (namesAt s.σ s.O o)) ?_ ?_ h1 (fun n o' hm e1 e2 => hvw.none (updOk_plain hb n o' hm).2.2 (updOk_new hb n o' hm e1 e2)) ?_
  · intro n o' hl
    unfold lookIn at hl
    cases hb : memB (namesAt s.σ s.O o) n with
    | false => rw [hb] at hl; cases hl
    | true => rw [hb] at hl; exact hvw.at hl
  · intro n o' hl
    unfold lookIn at hl
    cases hb : memB (namesAt s.σ s.O o) n with
    | false => rw [hb] at hl; cases hl
    | true => exact memB_iff.1 hb
  · intro S' β' w' v hc' le hv
    have hv7 := hvw.over (updOk_plain hb)
    have hu := updOk_plain hb
    refine hK ⟨σ', u ++ s.O⟩ _ _ ⟨S', β', _, hc', ?_, by rw [← over_lkp]; exact hv7, ?_, by rw [size_put, hsz], by rw [defers_put, hdf]⟩ h
    · show Slots _ (lkp σ') _
      rw [g2]
      exact (hs.le le).put (fun e he => by rw [hsz]; exact g1 e he) hv
    · intro n e e' t xss sr d i jo hn hl
      have hn' : lkp s.O n = some (.rows e e' t xss sr) := by
        rw [← over_lkp, over_eq] at hn
        cases hl : lkp u n with
        | none => rw [hl] at hn; exact hn
        | some x =>
          rw [hl] at hn
          simp only [Option.some.injEq] at hn
          exact ((plainN_not (hu n x (lkp_mem hl)).2.1).1 _ _ _ _ _ hn).elim
      exact hlo.go le (free_spec hfr) (lrow_over hvw hu) n e e' t xss sr d i jo hn' hl

theorem putK_some {ρ : Type} {st : St} {o : Oper} {av : AV} {O : List (Nat × AObj)} {K : St → Option ρ} {r : ρ} (h : putK nt st o av O K = some r) :
    ∃ σ', freeSlot st.O o.dst = true ∧ (∀ d, o.dst = some d → d < nt) ∧ lkp σ' = putF o.dst av (lkp st.σ) ∧ K ⟨σ', O⟩ = some r := by
  unfold putK at h
  cases hfr : freeSlot st.O o.dst with
  | false => rw [hfr] at h; cases h
  | true =>
    rw [hfr] at h; simp only [cond_true] at h
    split at h
    · rename_i σ' hσ
      obtain ⟨g1, g2⟩ := putS_some hσ
      exact ⟨σ', rfl, g1, g2, h⟩
    · cases h

/-- nothing of memory changes -/
theorem putK_pure {F : Fr} {S : CellSet} {β : Nat → Place} {Om : Nat → Option AObj} {s : St} {a : Act} {w : World} {o : Oper} {Kn : Act → World → Prop} {Q : Exit → Act → World → Prop} {ρ : Type} {r : ρ} {K : St → Option ρ} {av : AV}
    (hc : Core F S β Om w) (hs : Slots (F.rp S β Om w) (lkp s.σ) a.tmps) (hvw : View (lkp s.O) Om) (hlo : LentOk (lkp s.O) Om (F.rp S β Om w) a.tmps) (hsz : a.tmps.size = nt) (hdf : a.defers = [])
    (h : putK nt s o av s.O K = some r) {v : Value} (hrun : (execOp a.eval o).run P w = .ok (.value v) w) (hv : RelAV (F.rp S β Om w) av v) (hK : ∀ s' a' w', GoodR F nt s' a' w' → K s' = some r → Kn a' w') : o.wp P a w Kn Q := by
  obtain ⟨σ', g0, g1, g2, g3⟩ := putK_some h
  refine wp_value hrun (hK ⟨σ', s.O⟩ _ _ ⟨S, β, Om, hc, ?_, hvw, hlo.go (le_refl _) (free_spec g0) (fun _ _ _ h => h), by rw [size_put, hsz], by rw [defers_put, hdf]⟩ g3)
  show Slots _ (lkp σ') _
  rw [g2]
  exact hs.put (fun e he => by rw [hsz]; exact g1 e he) hv

variable {F : Fr} {s : St} {a : Act} {w : World} {o : Oper} {Kn : Act → World → Prop} {Q : Exit → Act → World → Prop} {ρ : Type} {r : ρ} {K : St → Option ρ}

theorem rel_row_lrow {p : RP} {n : Nat} {e : TypeId} {hs : List Nat} (hO : p.O n = some (.lrow e hs)) {v : Value} (h : RelAV p (.one (.row n)) v) : v = .slice (addrOf (p.β n).1) hs.length (p.β n).2 := by
  have h := h.resolve_left (by simp)
  unfold RelL at h
  rw [hO] at h
  simpa using h

theorem specIndex_ok (hE : EnvOk P c) {T : TypeId} {x i : Operand} (ho : o.op = .indexAddr T x i) {n : Nat} (hx : gv c s.σ x 0 = some (.one (.row n))) {e e' : TypeId} {t : Ty} {xss : List (List t.V)} {sr : RSt} (hO : lkp s.O n = some (.rows e e' t xss sr))
    (hel : eltOk c T (.sl t) = true) {b : AV} (hb : gv c s.σ i 0 = some b) {k : Int} (hk : intOf? b = some k) {ys : List t.V} (hy : ixAt xss k = some ys) (h : putK nt s o (.one (.eref n k 0)) s.O K = some r) (hg : GoodR F nt s a w)
    (hK : ∀ s' a' w', GoodR F nt s' a' w' → K s' = some r → Kn a' w') : o.wp P a w Kn Q := by
  obtain ⟨S, β, Om, hc, hs, hvw, hlo, hsz, hdf⟩ := hg
  obtain ⟨hh, h1, h2, h3, h4⟩ := hvw.rows n _ _ _ _ _ hO
  have hX := rel_row_lrow (p := F.rp S β Om w) h1 (gv_rel hE hs hx)
  obtain ⟨k1, hY⟩ := int_rel hk (gv_rel hE hs hb)
  obtain ⟨e1, ee, hu1, hee, hsz1, hpos, _⟩ := eltOk_spec hE hel
  obtain ⟨h0, h5, hyn⟩ := ixAt_some hy
  simp only [Fr.rp] at hX
  rcases hc.obj n _ h1 with ⟨_, rfl⟩ | ⟨b0, o0, arr, cs, rest, h6, _⟩
  · have : xss = [] := List.length_eq_zero_iff.1 h2.symm
    subst this; simp at hyn
  · simp only [Fr.rp] at h6
    have hsr := sizeOf_run (hE.te e1 ee hee) w
    have hsz2 : ee.sz = 1 := by rw [hsz1]; rfl
    have h5' : k < hh.length := by rw [h2]; exact h5
    refine putK_pure hc hs hvw hlo hsz hdf h (v := .pointer (some ⟨b0, o0 + k.toNat * 1, none⟩)) ?_ (.inr ?_) hK
    · rw [h6] at hX
      simp [execOp, ho, hX, hY, addrOf, Instr.indexAt, asIntOf, run_underlying hu1, h0, h5', hsr, hsz2, add_at]
    · unfold RelL
      rw [show (F.rp S β Om w).O n = some (.lrow e hh) from h1]
      exact ⟨b0, o0, h6, h0, h5', by simp⟩

theorem specLen_ok (hE : EnvOk P c) {x : Operand} {T : TypeId} {as : Array Operand} {ts : Array TypeId} (ho : o.op = .call { callee := .builtin .len, args := as, argTypes := ts }) (has : as.toList = [x]) (hts : ts.toList = [T]) {n : Nat} (hx : gv c s.σ x T = some (.one (.row n))) {e e' : TypeId} {t : Ty} {xss : List (List t.V)} {sr : RSt} (hO : lkp s.O n = some (.rows e e' t xss sr))
    (hT : slOk c T = true) (h : putK nt s o (.one (.v (.int .i64) (xss.length : Int))) s.O K = some r) (hg : GoodR F nt s a w)
    (hK : ∀ s' a' w', GoodR F nt s' a' w' → K s' = some r → Kn a' w') : o.wp P a w Kn Q := by
  obtain ⟨S, β, Om, hc, hs, hvw, hlo, hsz, hdf⟩ := hg
  obtain ⟨hh, h1, h2, h3, h4⟩ := hvw.rows n _ _ _ _ _ hO
  have hX := rel_row_lrow (p := F.rp S β Om w) h1 (gv_rel hE hs hx)
  obtain ⟨e1, hu⟩ := slOk_spec hE hT
  have hargs : (as.map a.eval).toList = as.toList.map a.eval := by simp
  have he : as.map a.eval = #[a.eval x] := ofList _ _ (by rw [hargs, has]; rfl)
  have ht : ts = #[T] := ofList _ _ hts
  refine putK_pure hc hs hvw hlo hsz hdf h (v := .int .i64 (xss.length : Int)) ?_ (of_int _ _ _) hK
  have : (Builtin.len_ #[T] o.type #[a.eval x]).run P w = .ok (.int .i64 (xss.length : Int)) w := by
    rw [hX]; simp [Builtin.len_, run_underlying hu, goInt, h2]
  simp [execOp, ho, Go.resolve, invoke, builtin, he, ht, this]

theorem rows_at {p : RP} : ∀ {hs : List Nat} {cs : List Value} {i q : Nat}, RelLs p (hs.map .row) cs → hs[i]? = some q → ∃ x v z, cs = x ++ ([v] ++ z) ∧ x.length = i ∧ RelL p (.row q) [v]
  | [], _, i, q, _, h => by simp at h
  | q0 :: hs, _, 0, q, ⟨c, d, e, h1, h2⟩, h => by
    simp at h; subst h
    have := RelL_len _ h1
    match c, this with
    | [v], _ => exact ⟨[], v, d, by simp [e], rfl, h1⟩
  | q0 :: hs, _, i + 1, q, ⟨c, d, e, h1, h2⟩, h => by
    have := RelL_len _ h1
    obtain ⟨x, v, z, h3, h4, h5⟩ := rows_at h2 (by simpa using h)
    match c, this with
    | [v0], _ => exact ⟨v0 :: x, v, z, by simp [e, h3], by simp [h4], h5⟩

theorem row_told {F : Fr} {S : CellSet} {β : Nat → Place} {O : Nat → Option AObj} {w : World} (hc : Core F S β O w) {q : Nat} {e : TypeId} {t : Ty} {xs : List t.V} (hO : O q = some (.row e t xs true)) {v : Value} (h : RelL (F.rp S β O w) (.row q) [v]) :
    RelL (F.rp S β O w) (.v (.sl t) xs) [v] := by
  unfold RelL at h
  rw [show (F.rp S β O w).O q = some (.row e t xs true) from hO] at h
  obtain ⟨h1, h2⟩ := hc.froz_reads hO
  refine ⟨_, _, h, h1, h2.imp id ?_⟩
  rintro ⟨b, o, cs, hb, h3, h4⟩
  exact ⟨b, o, cs, by show addrOf (β q).1 = _; rw [hb]; rfl, h3, h4⟩

theorem eref_lrow {p : RP} {n : Nat} {i : Int} {off : Nat} {e : TypeId} {hs : List Nat} (hO : p.O n = some (.lrow e hs)) {v : Value} (h : RelAV p (.one (.eref n i off)) v) :
    ∃ b o, (p.β n).1 = some (b, o) ∧ 0 ≤ i ∧ i < hs.length ∧ v = .pointer (some ⟨b, o + i.toNat * 1 + off, none⟩) := by
  have h := h.resolve_left (by simp)
  unfold RelL at h
  rw [hO] at h
  obtain ⟨b, o, h1, h2, h3, h4⟩ := h
  exact ⟨b, o, h1, h2, h3, by simpa using h4⟩

theorem hs_at {hs : List Nat} {α : Type} {xss : List α} {i : Int} {x : α} (hl : hs.length = xss.length) (h0 : 0 ≤ i) (hx : xss[i.toNat]? = some x) : ∃ q, hs[i.toNat]? = some q := by
  have := (List.getElem?_eq_some_iff.1 hx).1
  exact ⟨_, List.getElem?_eq_getElem (by omega)⟩

theorem View.rowSt {O Om : Nat → Option AObj} (h : View O Om) {n : Nat} {e e' : TypeId} {t : Ty} {xss xss' : List (List t.V)} {sr sr' : RSt} (hn : O n = some (.rows e e' t xss sr)) {hs : List Nat} (hp : Om n = some (.lrow e hs)) (hok : HsOk Om hs e' t xss' sr') :
    View (upd O n (some (.rows e e' t xss' sr'))) Om := by
  refine ⟨?_, ?_, ?_, ?_, h.apart, h.bound, h.hid⟩
  · intro m o ho
    by_cases e1 : m = n
    · subst e1; exact h.small _ _ hn
    · rw [upd_ne _ _ _ _ e1] at ho; exact h.small m o ho
  · intro m hb hpl
    by_cases e1 : m = n
    · subst e1; rw [upd_same] at hpl; cases hpl
    · rw [upd_ne _ _ _ _ e1] at hpl ⊢; exact h.plain m hb hpl
  · intro m e2 e2' t2 xss2 s2 hm
    by_cases e1 : m = n
    · subst e1; rw [upd_same] at hm; cases hm; exact ⟨hs, hp, hok⟩
    · rw [upd_ne _ _ _ _ e1] at hm; exact h.rows m _ _ _ _ _ hm
  · intro m e2 hs2 hm
    by_cases e1 : m = n
    · subst e1; rw [upd_same] at hm; cases hm
    · rw [upd_ne _ _ _ _ e1] at hm; exact h.lrow m _ _ hm

theorem lkp_upd (n : Nat) (o : AObj) (O : List (Nat × AObj)) : lkp ((n, o) :: O) = upd (lkp O) n (some o) := by
  funext k; rw [lkp_cons]; rfl

theorem specLoad_ok {s1 s2 : RSt} {av : AV} (hE : EnvOk P c) {T : TypeId} {x : Operand} (ho : o.op = .load T x) {n : Nat} {i : Int} (hx : gv c s.σ x 0 = some (.one (.eref n i 0))) {e e' : TypeId} {t : Ty} {xss : List (List t.V)} (hO : lkp s.O n = some (.rows e e' t xss s1))
    {d : Nat} (hd : o.dst = some d) {te : TE} (hte : lkp c.te T = some te) (h1 : te.sz = 1) (hag : aggOf te = false) {xs : List t.V} (hxs : ixAt xss i = some xs)
    (hss : s1 = .full ∧ s2 = .lent d i ∧ av = .one (.v (.sl t) xs) ∨ s1 = .own ∧ s2 = .lentO d i ∧ av = .one .undef) (h : putK nt s o av ((n, .rows e e' t xss s2) :: s.O) K = some r) (hg : GoodR F nt s a w)
    (hK : ∀ s' a' w', GoodR F nt s' a' w' → K s' = some r → Kn a' w') : o.wp P a w Kn Q := by
  obtain ⟨S, β, Om, hc, hs, hvw, hlo, hsz, hdf⟩ := hg
  obtain ⟨hh, g1, g2, g3, g4⟩ := hvw.rows n _ _ _ _ _ hO
  obtain ⟨b0, o0, hb, h0, hlt, hX⟩ := eref_lrow (p := F.rp S β Om w) g1 (gv_rel hE hs hx)
  obtain ⟨_, _, hyn⟩ := ixAt_some hxs
  obtain ⟨q, hq⟩ := hs_at g2 h0 hyn
  obtain ⟨hqb, hqO⟩ := g4 _ _ _ hq hyn
  have hqO : Om q = some (.row e' t xs s1.fz) := hqO (by rcases hss with ⟨rfl, _⟩ | ⟨rfl, _⟩ <;> (intro hh; cases hh))
  simp only [Fr.rp] at hb
  rcases hc.obj n _ g1 with ⟨h3, _⟩ | ⟨b1, o1, arr, cs, rest, h3, h4, h5, h6, h7, h8, h9, h10⟩
  · simp only [Fr.rp] at h3; rw [h3] at hb; cases hb
  · simp only [Fr.rp] at h3 h4
    rw [h3] at hb; simp only [Option.some.injEq, Prod.mk.injEq] at hb
    obtain ⟨rfl, rfl⟩ := hb
    obtain ⟨y, v, z, e1, l1, hrv⟩ := rows_at h7 hq
    have hcell : ∀ j u, [v][j]? = some u → cellAt w b1 (o1 + i.toNat * 1 + 0 + j) = some u := by
      intro j u hj
      cases j with
      | succ j => simp at hj
      | zero =>
        simp at hj; subst hj
        have : (arr.toList.drop o1)[i.toNat]? = some v := by rw [h6, e1, List.append_assoc, List.getElem?_append_right (by omega)]; simp [l1]
        rw [List.getElem?_drop] at this
        have := arr_cells h4 (o1 + i.toNat) v this
        simpa using this
    obtain ⟨v', hr, hrel⟩ := load_run (hE.te T te hte) (o := o1 + i.toNat * 1 + 0) (b := b1) hcell (by rw [h1]; rfl) (p := F.rp S β Om w) (q := [.row q]) (av := .one (.row q)) (by unfold valOf; rw [hag]; rfl) ⟨[v], [], by simp, hrv, rfl⟩
    have hrel := hrel.resolve_left (by simp)
    obtain ⟨σ', k0, k1, k2, k3⟩ := putK_some h
    refine wp_value (v := v') (w' := w) ?_ (hK ⟨σ', (n, .rows e e' t xss s2) :: s.O⟩ _ _ ⟨S, β, Om, hc, ?_, ?_, ?_, by rw [size_put, hsz], by rw [defers_put, hdf]⟩ k3)
    · simp only [Nat.mul_one, Nat.add_zero] at hX hr
      simp [execOp, ho, hX, hr]
    · show Slots _ (lkp σ') _
      rw [k2]
      refine hs.put (fun e he => by rw [hsz]; exact k1 e he) ?_
      rcases hss with ⟨rfl, _, rfl⟩ | ⟨_, _, rfl⟩
      · exact .inr (row_told hc hqO hrel)
      · exact .inl rfl
    · show View (lkp ((n, _) :: s.O)) Om
      rw [lkp_upd]
      refine hvw.rowSt hO g1 ⟨g2, g3, fun i' q' xs' a1 a2 => ⟨(g4 i' q' xs' a1 a2).1, fun _ => ?_⟩⟩
      rcases hss with ⟨rfl, rfl, _⟩ | ⟨rfl, rfl, _⟩
      · exact (g4 i' q' xs' a1 a2).2 (by intro hh; cases hh)
      · exact (g4 i' q' xs' a1 a2).2 (by intro hh; cases hh)
    · intro m e2 e2' t2 xss2 s2 d2 i2 jo2 hm hl2
      rw [lkp_upd] at hm
      by_cases e3 : m = n
      · subst e3
        rw [upd_same] at hm; cases hm
        have hl2 : d2 = d ∧ i2 = i ∧ jo2 = none := by rcases hss with ⟨_, rfl, _⟩ | ⟨_, rfl, _⟩ <;> (cases hl2; exact ⟨rfl, rfl, rfl⟩)
        obtain ⟨e5, e6, e7⟩ := hl2
        subst e7
        rw [e5, e6]
        refine ⟨h0, hh, q, g1, hq, ?_⟩
        have : (a.put o.dst v').tmps.getD d undef = v' := by
          rw [hd]
          have := k1 d hd
          simp [Act.put, hsz, this]
        rw [this]; exact hrel
      · rw [upd_ne _ _ _ _ e3] at hm
        exact (hlo.go (le_refl _) (free_spec k0) (fun _ _ _ h => h)) m _ _ _ _ _ _ _ _ hm hl2

theorem rowsOf_mono {lk lk' : Nat → Option AObj} {l : Lf} {ys : Σ t : Ty, List t.V} (hm : ∀ n o, lk n = some o → lk' n = some o) (h : rowsOf lk l = some ys) : rowsOf lk' l = some ys := by
  unfold rowsOf at h ⊢
  split at h
  · exact h
  · exact h
  · exact h
  · split at h
    · rename_i hl
      simp only [hm _ _ hl]
      exact h
    · cases h
  · split at h
    · rename_i hl
      simp only [hm _ _ hl]
      exact h
    · cases h
  · cases h

theorem view_hole {O Om : Nat → Option AObj} (h : View O Om) {n k : Nat} {e e' : TypeId} {t : Ty} {xss : List (List t.V)} {sr : RSt} {i : Int} (hn : O n = some (.rows e e' t xss sr)) {hs : List Nat} (hp : Om n = some (.lrow e hs)) (hok : HsOk Om hs e' t xss sr) (hsr : ∀ j, sr ≠ .hole j) (hfz : sr.fz = true)
    {q : Nat} (h0 : 0 ≤ i) (hq : hs[i.toNat]? = some q) (hk : O k = none) (hkb : k < bigName) (hqb : bigName ≤ q) {o : AObj} (ho : plainN o = true) :
    View (upd (upd O k (some o)) n (some (.rows e e' t xss (.hole i)))) (over [(q, .dead), (k, o)] Om) := by
  have hkn : k ≠ n := by rintro rfl; rw [hk] at hn; cases hn
  have hkq : k ≠ q := by omega
  have hOmk : over [(q, .dead), (k, o)] Om k = some o := by simp [R.over, lkp_cons, hkq]
  have hOmq : over [(q, .dead), (k, o)] Om q = some .dead := by simp [R.over, lkp_cons]
  have hOmo : ∀ m, m ≠ q → m ≠ k → over [(q, .dead), (k, o)] Om m = Om m := by
    intro m h1 h2
    have e0 : lkp ([] : Upd) m = none := rfl
    simp [R.over, lkp_cons, h1, h2, e0]
  have hlr : ∀ m e hs, over [(q, .dead), (k, o)] Om m = some (.lrow e hs) → Om m = some (.lrow e hs) := by
    intro m e hs hm
    by_cases h1 : m = q
    · subst h1; rw [hOmq] at hm; cases hm
    · by_cases h2 : m = k
      · subst h2; rw [hOmk] at hm; cases hm; cases ho
      · rw [hOmo m h1 h2] at hm; exact hm
  obtain ⟨g1, g2, g3⟩ := hok
  refine ⟨?_, ?_, ?_, ?_, ?_, ?_, ?_⟩
  · intro m o2 hm
    by_cases e1 : m = n
    · subst e1; exact h.small _ _ hn
    · rw [upd_ne _ _ _ _ e1] at hm
      by_cases e2 : m = k
      · subst e2; exact hkb
      · rw [upd_ne _ _ _ _ e2] at hm; exact h.small m o2 hm
  · intro m hb hpl
    by_cases e1 : m = n
    · subst e1; rw [upd_same] at hpl; cases hpl
    · rw [upd_ne _ _ _ _ e1] at hpl ⊢
      by_cases e2 : m = k
      · subst e2; rw [upd_same, hOmk]
      · rw [upd_ne _ _ _ _ e2] at hpl ⊢
        rw [hOmo m (by omega) e2]; exact h.plain m hb hpl
  · intro m e2 e2' t2 xss2 s2 hm
    by_cases e1 : m = n
    · subst e1; rw [upd_same] at hm; cases hm
      refine ⟨hs, by rw [hOmo _ (by have := h.small _ _ hn; omega) (Ne.symm hkn)]; exact hp, g1, g2, fun j q' xs hq' hx => ?_⟩
      obtain ⟨g4, g5⟩ := g3 j q' xs hq' hx
      refine ⟨g4, fun hne => ?_⟩
      have : q' ≠ q := by
        rintro rfl
        have := (List.getElem?_inj (List.getElem?_eq_some_iff.1 hq').1 g2).1 (hq'.trans hq.symm)
        exact hne (by congr 1; omega)
      rw [hOmo q' this (by omega)]
      have g6 := g5 (hsr _)
      rw [hfz] at g6; exact g6
    · rw [upd_ne _ _ _ _ e1] at hm
      by_cases e2 : m = k
      · subst e2; rw [upd_same] at hm; cases hm; cases ho
      · rw [upd_ne _ _ _ _ e2] at hm
        obtain ⟨hs2, f1, f2, f3, f4⟩ := h.rows m _ _ _ _ _ hm
        refine ⟨hs2, by rw [hOmo _ (by have := h.small _ _ hm; omega) e2]; exact f1, f2, f3, fun j q' xs hq' hx => ?_⟩
        obtain ⟨g4, g5⟩ := f4 j q' xs hq' hx
        refine ⟨g4, fun hne => ?_⟩
        have : q' ≠ q := by
          rintro rfl
          exact h.apart m n _ _ _ _ f1 hp e1 q' (List.mem_of_getElem? hq') (List.mem_of_getElem? hq)
        rw [hOmo q' this (by omega)]
        exact g5 hne
  · intro m e2 hs2 hm
    by_cases e1 : m = n
    · subst e1; rw [upd_same] at hm; cases hm
    · rw [upd_ne _ _ _ _ e1] at hm
      by_cases e2 : m = k
      · subst e2; rw [upd_same] at hm; cases hm; cases ho
      · rw [upd_ne _ _ _ _ e2] at hm; exact h.lrow m _ _ hm
  · intro m m' a1 a2 b1 b2 h1 h2 hne
    exact h.apart m m' _ _ _ _ (hlr _ _ _ h1) (hlr _ _ _ h2) hne
  · obtain ⟨B, hB, hB2⟩ := h.bound
    refine ⟨max B (max (q + 1) (k + 1)), fun m hm => ?_, fun n e hs hn q hq => by have := hB2 n e hs (hlr _ _ _ hn) q hq; omega⟩
    rw [hOmo m (by omega) (by omega)]; exact hB m (by omega)
  · intro m a1 a2 h1
    exact h.hid m _ _ (hlr _ _ _ h1)


theorem specAppend_ok (hE : EnvOk P c) {as : Array Operand} {ts : Array TypeId} (ho : o.op = .call { callee := .builtin .append, args := as, argTypes := ts }) {d0 : Nat} {y : Operand} {T U : TypeId} (has : as.toList = [.tmp d0, y]) (hts : ts.toList = [T, U])
    {n : Nat} {i : Int} {e e' : TypeId} {t : Ty} {xss : List (List t.V)} (hO : lkp s.O n = some (.rows e e' t xss (.lent d0 i))) {b : AV} (hb : gv c s.σ y U = some b) {l : Lf} (hl : one? b = some l) {te : TE} (hte : lkp c.te T = some te) {e2 : TypeId} (hde : te.d = .slice e2) (he2 : Nat.beq e2 e' = true)
    (hU : (slOk c U || strOk c U) = true) (hfr : (lkp s.O (o.dst.getD noSlot * 8)).isNone = true) (hbig : o.dst.getD noSlot * 8 < bigName) {ys : Σ t : Ty, List t.V} (hys : rowsOf (lookIn s.O l.names) l = some ys) (hel : eltOk c T ys.1 = true) {zs : List t.V} (hzs : castV (.sl ys.1) (.sl t) ys.2 = some zs)
    {xs : List t.V} (hxs : ixAt xss i = some xs) (hgr : Go.Proofs.R.grow (xs.length + zs.length) = some ())
    (h : putK nt s o (.one (.row (o.dst.getD noSlot * 8))) ((n, .rows e e' t xss (.hole i)) :: (o.dst.getD noSlot * 8, .row e' t (xs ++ zs) true) :: s.O) K = some r) (hg : GoodR F nt s a w)
    (hK : ∀ s' a' w', GoodR F nt s' a' w' → K s' = some r → Kn a' w') : o.wp P a w Kn Q := by
  obtain ⟨S, β, Om, hc, hs, hvw, hlo, hsz, hdf⟩ := hg
  obtain ⟨hh, g1, g2, g3, g4⟩ := hvw.rows n _ _ _ _ _ hO
  obtain ⟨h0, hh2, q, f1, hq, hrel⟩ := hlo n _ _ _ _ _ _ _ _ hO rfl
  rw [g1] at f1; cases f1
  obtain ⟨_, _, hyn⟩ := ixAt_some hxs
  obtain ⟨hqb, hqO⟩ := g4 _ _ _ hq hyn
  have hqO : Om q = some (.row e' t xs true) := hqO (by intro hh; cases hh)
  have hX := one_rel hl (by rintro rfl; cases hys) (gv_rel hE hs hb)
  have hfr' : lkp s.O (o.dst.getD noSlot * 8) = none := by
    cases hq : lkp s.O (o.dst.getD noSlot * 8) with
    | none => rfl
    | some _ => rw [hq] at hfr; cases hfr
  have hd := hvw.none hbig hfr'
  have hlki : ∀ k o', lookIn s.O l.names k = some o' → Om k = some o' := by
    intro k o' hl
    unfold lookIn at hl
    cases hb : memB l.names k with
    | false => rw [hb] at hl; cases hl
    | true => rw [hb] at hl; exact hvw.at hl
  have hqn : lookIn s.O l.names q = none := by
    cases hl : lookIn s.O l.names q with
    | none => rfl
    | some o' =>
      unfold lookIn at hl
      cases hb : memB l.names q with
      | false => rw [hb] at hl; cases hl
      | true =>
        rw [hb] at hl
        have := hvw.small _ _ (fltO_some hl).1
        omega
  let lk : Nat → Option AObj := fun k => if k = q then Om q else lookIn s.O l.names k
  have hlk : ∀ k o', lk k = some o' → Om k = some o' := by
    intro k o' hk
    by_cases e1 : k = q
    · subst e1; simpa [lk] using hk
    · exact hlki k o' (by simpa [lk, e1] using hk)
  have hys2 : rowsOf lk l = some ys := rowsOf_mono (fun k o' hk => by
    have : k ≠ q := by rintro rfl; rw [hqn] at hk; cases hk
    simpa [lk, this] using hk) hys
  have hap : appendOp c lk (o.dst.getD noSlot) T (.row q) l two = some (.one (.row (o.dst.getD noSlot * 8)), [(q, .dead), (o.dst.getD noSlot * 8, .row e' t (xs ++ zs) true)]) := by
    unfold appendOp
    have hlq : lk q = some (.row e' t xs true) := by simp [lk, hqO]
    simp [hte, hde, hys2, hel, hlq, he2, hzs, bindD, hgr, two, beq_sz he2]
  obtain ⟨v, w', S', β', hrun, hc', le, hv⟩ := appendOp_run hE hc hlk hd hU hrel hX hap o.type
  obtain ⟨σ', k0, k1, k2, k3⟩ := putK_some h
  have hqd : q ≠ o.dst.getD noSlot * 8 := fun e => absurd hqb (by rw [e]; exact Nat.not_le.2 hbig)
  refine wp_value (v := v) (w' := w') ?_ (hK ⟨σ', _⟩ _ _ ⟨S', β', _, hc', ?_, ?_, ?_, by rw [size_put, hsz], by rw [defers_put, hdf]⟩ k3)
  · have he : as.map a.eval = #[a.eval (.tmp d0), a.eval y] := ofList _ _ (by simp [has])
    have ht : ts = #[T, U] := ofList _ _ hts
    have hev : a.eval (.tmp d0) = a.tmps.getD d0 undef := rfl
    rw [← hev] at hrun
    simp [execOp, ho, Go.resolve, invoke, builtin, he, ht, hrun]
  · show Slots _ (lkp σ') _
    rw [k2]
    exact (hs.le le).put (fun e he => by rw [hsz]; exact k1 e he) hv
  · show View (lkp ((n, _) :: (_, _) :: s.O)) _
    rw [lkp_upd, lkp_upd]
    exact view_hole hvw hO g1 ⟨g2, g3, g4⟩ (by intro j hj; cases hj) rfl h0 hq hfr' hbig hqb rfl
  · intro m e3 e3' t3 xss3 s3 d3 i3 jo3 hm hl3
    rw [lkp_upd, lkp_upd] at hm
    by_cases e1 : m = n
    · subst e1; rw [upd_same] at hm; cases hm; cases hl3
    · rw [upd_ne _ _ _ _ e1] at hm
      by_cases e2 : m = o.dst.getD noSlot * 8
      · subst e2; rw [upd_same] at hm; cases hm
      · rw [upd_ne _ _ _ _ e2] at hm
        refine (hlo.go le (free_spec k0) (fun m e hs hm => ?_)) m _ _ _ _ _ _ _ _ hm hl3
        have h1 : m ≠ q := by rintro rfl; rw [hqO] at hm; cases hm
        have h2 : m ≠ o.dst.getD noSlot * 8 := by rintro rfl; rw [hd] at hm; cases hm
        have e0 : lkp ([] : Upd) m = none := rfl
        simp [R.over, lkp_cons, h1, h2, e0, hm]

theorem RelLs_put2 {p : RP} : ∀ {hs : List Nat} {cs : List Value} {i q q' : Nat} {v : Value}, RelLs p (hs.map .row) cs → hs[i]? = some q → RelL p (.row q') [v] →
    ∃ x u z, cs = x ++ ([u] ++ z) ∧ x.length = i ∧ RelLs p ((hs.set i q').map .row) (x ++ ([v] ++ z))
  | [], _, i, q, _, _, _, h, _ => by simp at h
  | q0 :: hs, _, 0, q, q', v, ⟨c, d, e, h1, h2⟩, h, hv => by
    have := RelL_len _ h1
    match c, this with
    | [u], _ => exact ⟨[], u, d, by simp [e], rfl, [v], d, rfl, hv, h2⟩
  | q0 :: hs, _, i + 1, q, q', v, ⟨c, d, e, h1, h2⟩, h, hv => by
    have := RelL_len _ h1
    obtain ⟨x, u, z, h3, h4, h5⟩ := RelLs_put2 (q' := q') h2 (by simpa using h) hv
    match c, this with
    | [v0], _ => exact ⟨v0 :: x, u, z, by simp [e, h3], by simp [h4], [v0], _, rfl, h1, h5⟩

theorem View.big {O Om : Nat → Option AObj} (h : View O Om) : ∃ B, bigName ≤ B ∧ (∀ k, B ≤ k → Om k = Option.none) ∧ ∀ n e hs, Om n = some (.lrow e hs) → ∀ q ∈ hs, q < B := by
  obtain ⟨B, h1, h2⟩ := h.bound
  exact ⟨Max.max B bigName, by omega, fun k hk => h1 k (by omega), fun n e hs hn q hq => by have := h2 n e hs hn q hq; omega⟩

theorem nodup_set {l : List Nat} {i q : Nat} (h : l.Nodup) (hq : q ∉ l) : (l.set i q).Nodup := by
  induction l generalizing i with
  | nil => simp
  | cons a l ih =>
    rw [List.nodup_cons] at h
    simp only [List.mem_cons, not_or] at hq
    cases i with
    | zero => rw [List.set_cons_zero, List.nodup_cons]; exact ⟨hq.2, h.2⟩
    | succ i =>
      rw [List.set_cons_succ, List.nodup_cons]
      refine ⟨fun hm => ?_, ih h.2 hq.2⟩
      rcases List.mem_or_eq_of_mem_set hm with h1 | h1
      · exact h.1 h1
      · exact hq.1 h1.symm

theorem view_store {O Om : Nat → Option AObj} (h : View O Om) {n m : Nat} {e e' : TypeId} {t : Ty} {xss : List (List t.V)} {i : Int} {s1 s2 : RSt} {fl : Bool} (hss : s1 = .hole i ∧ s2 = .full ∧ fl = true ∨ s1 = .own ∧ s2 = .own ∧ fl = false) (hn : O n = some (.rows e e' t xss s1)) {hs : List Nat} (hp : Om n = some (.lrow e hs)) (hok : HsOk Om hs e' t xss s1)
    {q B : Nat} (h0 : 0 ≤ i) {x0 : AObj} (hm : O m = some x0) (hmn : m ≠ n) (hB : bigName ≤ B) (hq : B = q) (hBn : ∀ k, B ≤ k → Om k = none) (hBh : ∀ n e hs, Om n = some (.lrow e hs) → ∀ q ∈ hs, q < B) {zs : List t.V} :
    View (upd (upd O m (some .dead)) n (some (.rows e e' t (setRow xss i zs) s2))) (upd (over [(m, .dead), (q, .row e' t zs fl)] Om) n (some (.lrow e (hs.set i.toNat q)))) := by
  have hmb := h.small _ _ hm
  have hnb := h.small _ _ hn
  subst hq
  have hmq : m ≠ B := by omega
  have hnq : n ≠ B := by omega
  have hOmm : over [(m, .dead), (B, .row e' t zs fl)] Om m = some .dead := by simp [R.over, lkp_cons]
  have hOmq : over [(m, .dead), (B, .row e' t zs fl)] Om B = some (.row e' t zs fl) := by simp [R.over, lkp_cons, hmq.symm]
  have hOmo : ∀ k, k ≠ m → k ≠ B → over [(m, .dead), (B, .row e' t zs fl)] Om k = Om k := by
    intro k h1 h2
    have e0 : lkp ([] : Upd) k = none := rfl
    simp [R.over, lkp_cons, h1, h2, e0]
  have hlr : ∀ k e2 hs2, k ≠ n → upd (over [(m, .dead), (B, .row e' t zs fl)] Om) n (some (.lrow e (hs.set i.toNat B))) k = some (.lrow e2 hs2) → Om k = some (.lrow e2 hs2) := by
    intro k e2 hs2 hk hh
    rw [upd_ne _ _ _ _ hk] at hh
    by_cases h1 : k = m
    · subst h1; rw [hOmm] at hh; cases hh
    · by_cases h2 : k = B
      · subst h2; rw [hOmq] at hh; cases hh
      · rw [hOmo k h1 h2] at hh; exact hh
  obtain ⟨g1, g2, g3⟩ := hok
  have hBhs : B ∉ hs := fun hh => by have := hBh _ _ _ hp B hh; omega
  have hnew : ∀ k e2 hs2, k ≠ n → Om k = some (.lrow e2 hs2) → ∀ q ∈ hs.set i.toNat B, q ∉ hs2 := by
    intro k e2 hs2 hk hh q hq hq2
    rcases List.mem_or_eq_of_mem_set hq with h1 | h1
    · exact h.apart k n _ _ _ _ hh hp hk q hq2 h1
    · subst h1; have := hBh _ _ _ hh q hq2; omega
  refine ⟨?_, ?_, ?_, ?_, ?_, ?_, ?_⟩
  · intro k o2 hk
    by_cases e1 : k = n
    · subst e1; exact hnb
    · rw [upd_ne _ _ _ _ e1] at hk
      by_cases e2 : k = m
      · subst e2; exact hmb
      · rw [upd_ne _ _ _ _ e2] at hk; exact h.small k o2 hk
  · intro k hb hpl
    by_cases e1 : k = n
    · subst e1; rw [upd_same] at hpl; cases hpl
    · rw [upd_ne _ _ _ _ e1] at hpl ⊢
      rw [upd_ne _ _ _ _ e1]
      by_cases e2 : k = m
      · subst e2; rw [upd_same, hOmm]
      · rw [upd_ne _ _ _ _ e2] at hpl ⊢
        rw [hOmo k e2 (by omega)]; exact h.plain k hb hpl
  · intro k e2 e2' t2 xss2 s2 hk
    by_cases e1 : k = n
    · subst e1; rw [upd_same] at hk; cases hk
      refine ⟨_, upd_same _ _ _, by simp [setRow, g1], nodup_set g2 hBhs, fun j q' xs hq' hx => ?_⟩
      rw [List.getElem?_set] at hq'
      unfold setRow at hx
      rw [List.getElem?_set] at hx
      by_cases e3 : i.toNat = j
      · rw [if_pos e3] at hq' hx
        split at hq'
        · cases hq'
          split at hx
          · cases hx
            exact ⟨hB, fun _ => by rw [upd_ne _ _ _ _ (Ne.symm hnq), hOmq]; rcases hss with ⟨_, rfl, rfl⟩ | ⟨_, rfl, rfl⟩ <;> rfl⟩
          · cases hx
        · cases hq'
      · rw [if_neg e3] at hq' hx
        obtain ⟨g4, g5⟩ := g3 j q' xs hq' hx
        refine ⟨g4, fun _ => ?_⟩
        have h1 : q' ≠ B := by rintro rfl; exact hBhs (List.mem_of_getElem? hq')
        rw [upd_ne _ _ _ _ (by omega), hOmo q' (by omega) h1]
        have hfz : s2.fz = s1.fz := by rcases hss with ⟨rfl, rfl, _⟩ | ⟨rfl, rfl, _⟩ <;> rfl
        rw [hfz]
        refine g5 ?_
        rcases hss with ⟨rfl, _, _⟩ | ⟨rfl, _, _⟩
        · intro hh; injection hh with hh; omega
        · intro hh; cases hh
    · rw [upd_ne _ _ _ _ e1] at hk
      by_cases e2 : k = m
      · subst e2; rw [upd_same] at hk; cases hk
      · rw [upd_ne _ _ _ _ e2] at hk
        obtain ⟨hs2, f1, f2, f3, f4⟩ := h.rows k _ _ _ _ _ hk
        have hkb := h.small _ _ hk
        refine ⟨hs2, by rw [upd_ne _ _ _ _ e1, hOmo k e2 (by omega)]; exact f1, f2, f3, fun j q' xs hq' hx => ?_⟩
        obtain ⟨g4, g5⟩ := f4 j q' xs hq' hx
        refine ⟨g4, fun hne => ?_⟩
        have h1 : q' ≠ B := by rintro rfl; have := hBh _ _ _ f1 q' (List.mem_of_getElem? hq'); omega
        rw [upd_ne _ _ _ _ (by omega), hOmo q' (by omega) h1]
        exact g5 hne
  · intro k e2 hs2 hk
    by_cases e1 : k = n
    · subst e1; rw [upd_same] at hk; cases hk
    · rw [upd_ne _ _ _ _ e1] at hk
      by_cases e2 : k = m
      · subst e2; rw [upd_same] at hk; cases hk
      · rw [upd_ne _ _ _ _ e2] at hk; exact h.lrow k _ _ hk
  · intro k k' a1 a2 b1 b2 h1 h2 hne
    by_cases e1 : k = n
    · subst e1
      rw [upd_same] at h1; cases h1
      exact hnew k' _ _ (Ne.symm hne) (hlr _ _ _ (Ne.symm hne) h2)
    · by_cases e2 : k' = n
      · subst e2
        rw [upd_same] at h2; cases h2
        intro q hq hq2
        exact hnew k _ _ e1 (hlr _ _ _ e1 h1) q hq2 hq
      · exact h.apart k k' _ _ _ _ (hlr _ _ _ e1 h1) (hlr _ _ _ e2 h2) hne
  · refine ⟨B + 1, fun k hk => ?_, fun k e2 hs2 hk q hq => ?_⟩
    · rw [upd_ne _ _ _ _ (by omega), hOmo k (by omega) (by omega)]; exact hBn k (by omega)
    · by_cases e1 : k = n
      · subst e1; rw [upd_same] at hk; cases hk
        rcases List.mem_or_eq_of_mem_set hq with h1 | h1
        · have := hBh _ _ _ hp q h1; omega
        · omega
      · have := hBh _ _ _ (hlr _ _ _ e1 hk) q hq; omega
  · intro k e2 hs2 hk
    by_cases e1 : k = n
    · subst e1; rw [upd_same] at hk; cases hk
      refine ⟨hnb, fun q hq => ?_⟩
      rcases List.mem_or_eq_of_mem_set hq with h1 | h1
      · exact (h.hid _ _ _ hp).2 q h1
      · omega
    · exact h.hid k _ _ (hlr _ _ _ e1 hk)

theorem specStore_ok (hE : EnvOk P c) {T : TypeId} {x y : Operand} (ho : o.op = .store T x y) (hdst : o.dst = none) {n : Nat} {i : Int} {s1 s2 : RSt} {fl : Bool} (hss : s1 = .hole i ∧ s2 = .full ∧ fl = true ∨ s1 = .own ∧ s2 = .own ∧ fl = false) (hx : gv c s.σ x 0 = some (.one (.eref n i 0))) {e e' : TypeId} {t : Ty} {xss : List (List t.V)} (hO : lkp s.O n = some (.rows e e' t xss s1))
    {m : Nat} (hy : gv c s.σ y T = some (.one (.row m))) {t2 : Ty} {xs2 : List t2.V} (hm : lkp s.O m = some (.row e' t2 xs2 fl)) {te : TE} (hte : lkp c.te T = some te) (h1 : te.sz = 1) (hmn : m ≠ n) {zs : List t.V} (hzs : castV (.sl t2) (.sl t) xs2 = some zs)
    (h : K ⟨s.σ, (n, .rows e e' t (setRow xss i zs) s2) :: (m, .dead) :: s.O⟩ = some r) (hg : GoodR F nt s a w)
    (hK : ∀ s' a' w', GoodR F nt s' a' w' → K s' = some r → Kn a' w') : o.wp P a w Kn Q := by
  obtain ⟨S, β, Om, hc, hs, hvw, hlo, hsz, hdf⟩ := hg
  obtain ⟨hh, g1, g2, g3, g4⟩ := hvw.rows n _ _ _ _ _ hO
  obtain ⟨b0, o0, hb, h0, hlt, hX⟩ := eref_lrow (p := F.rp S β Om w) g1 (gv_rel hE hs hx)
  obtain ⟨ec, hz2⟩ := castV_len hzs
  subst ec
  have hz3 : xs2 = zs := hz2
  subst hz3
  have hmb := hvw.small _ _ hm
  have hnb := hvw.small _ _ hO
  have hmO : Om m = some (.row e' t2 xs2 fl) := by rw [hvw.plain m hmb (by rw [hm]; rfl), hm]
  obtain ⟨B, hB, hBn, hBh⟩ := hvw.big
  have hY := one_rel (l := .row m) rfl (by simp) (gv_rel hE hs hy)
  have hmq : m ≠ B := by omega
  have hnq : n ≠ B := by omega
  have hmobj := hc.obj m _ hmO
  obtain ⟨S1, hc1, le1⟩ := hc.append hmO (hBn B (Nat.le_refl _)) (ys := xs2) (Nat.le_refl _) (pl := β m) (w' := w) rfl rfl rfl (Nat.le_refl _) (Nat.le_refl _) (fun _ _ _ => rfl) (fun _ _ _ _ h => h) (.inl rfl) (e' := e') (by
    intro q hq hb hw
    rcases hmobj with ⟨f1, f2⟩ | ⟨b, off, arr, cs, rest, f1, f2, f3, f4, f5, f6, f7, f8⟩
    · exact .inl ⟨by rw [hb]; exact f1, f2⟩
    · exact .inr ⟨b, off, arr, cs, rest, by rw [hb]; exact f1, by rw [hw]; exact f2, by rw [hb]; exact f3, f4, RdsOf_mono (fun _ _ => Rd_mono hq.S (fun b i v hs => hq.cells b i v (.inl hs)) t2) f5, by rw [hb]; exact f6, f7, f8⟩)
  have hOmn : over [(m, .dead), (B, .row e' t2 xs2 fl)] Om n = some (.lrow e hh) := by
    have e0 : lkp ([] : Upd) n = none := rfl
    simp [R.over, lkp_cons, Ne.symm hmn, hnq, e0, g1]
  have hOmq : over [(m, .dead), (B, .row e' t2 xs2 fl)] Om B = some (.row e' t2 xs2 fl) := by simp [R.over, lkp_cons, hmq.symm]
  have hv : ∃ A k cap, a.eval y = .slice A k cap := by
    have := hY; unfold RelL at this; rw [show (F.rp S β Om w).O m = some (.row e' t2 xs2 fl) from hmO] at this
    simp only [List.cons.injEq, and_true] at this
    exact ⟨_, _, _, this⟩
  have hY1 : RelL (F.rp S1 (upd β B (β m)) (over [(m, .dead), (B, .row e' t2 xs2 fl)] Om) w) (.row B) [a.eval y] := by
    have := hY
    unfold RelL at this ⊢
    rw [show (F.rp S β Om w).O m = some (.row e' t2 xs2 fl) from hmO] at this
    rw [show (F.rp S1 (upd β B (β m)) (over [(m, .dead), (B, .row e' t2 xs2 fl)] Om) w).O B = some (.row e' t2 xs2 fl) from hOmq]
    simpa [Fr.rp, upd_same] using this
  have hβn : (upd β B (β m)) n = β n := upd_ne _ _ _ _ hnq
  obtain ⟨A, k, cap, hv⟩ := hv
  have hcl : (a.eval y).cells = #[a.eval y] := by rw [hv]; rfl
  have hqi : ∃ q, hh[i.toNat]? = some q := ⟨_, List.getElem?_eq_getElem (by omega)⟩
  obtain ⟨q0, hq0⟩ := hqi
  simp only [Fr.rp] at hb
  rcases hc1.obj n _ hOmn with ⟨h3, _⟩ | ⟨b1, o1, arr, cs, rest, h3, h4, h5, h6, h7, h8, h9, h10⟩
  · simp only [Fr.rp] at h3; rw [hβn] at h3; rw [h3] at hb; cases hb
  · simp only [Fr.rp] at h3 h4 h5 h8
    rw [hβn] at h3 h5 h8
    rw [h3] at hb; simp only [Option.some.injEq, Prod.mk.injEq] at hb
    obtain ⟨rfl, rfl⟩ := hb
    obtain ⟨x1, u, z1, e1, l1, h11⟩ := RelLs_put2 h7 hq0 hY1
    have harr : arr.toList = (arr.toList.take o1 ++ x1) ++ ([u] ++ (z1 ++ rest)) := by
      conv => lhs; rw [← List.take_append_drop o1 arr.toList, h6, e1]
      simp
    have htl : (arr.toList.take o1).length = o1 := by rw [List.length_take, Nat.min_eq_left (by simpa using h9)]
    have hr := store_run (hE.te T te hte) (w := w) (b := b1) (o := o1 + i.toNat) (arr := arr) (e := e) h4 (v := a.eval y) (by rw [hcl, h1]; rfl) (by rw [hcl, hv]; intro u hu; simp at hu; subst hu; rfl) harr (by rw [List.length_append, htl, l1]) (by rw [h1]; rfl)
    rw [hcl] at hr
    have hxl : x1.length + (1 + z1.length) = cs.length := by rw [e1]; simp; omega
    obtain ⟨h15, h16⟩ := hc1.write hOmn rfl (o' := .lrow e (hh.set i.toNat B)) (.inr (.inl ⟨_, _, rfl, by simp⟩)) rfl (b := b1) (off := o1) (by rw [hβn]; exact h3) (by intro e t xs hh; cases hh) (by intro e t xs hh; cases hh)
      ((arr.toList.take o1 ++ x1) ++ ([a.eval y] ++ (z1 ++ rest))).toArray (by
        intro q hq hb hw
        have hlen := congrArg List.length harr
        simp only [Array.length_toList, List.length_append, List.length_cons, List.length_nil, htl] at hlen
        refine .inr ⟨b1, o1, _, x1 ++ ([a.eval y] ++ z1), rest, by rw [hb, hβn]; exact h3, by rw [hw]; exact setRow_heap w b1 arr _ e (0, 0) h4, by rw [hb, hβn, List.length_set]; exact h5, ?_, RelLs_le hq _ h11, ?_, ?_, ?_⟩
        · simp only [List.append_assoc]
          exact List.drop_left' htl
        · rw [hb, hβn]
          simp only [List.size_toArray, List.length_append, htl, List.length_cons, List.length_nil]
          omega
        · simp only [List.size_toArray, List.length_append, htl]; omega
        · intro v hv2
          have hin : ∀ v, v ∈ arr.toList.take o1 ∨ v ∈ x1 ∨ v ∈ z1 ∨ v ∈ rest → v.oneCell' = true := by
            intro v hv
            refine h10 v ?_
            rw [harr]
            simp only [List.append_assoc, List.mem_append]
            rcases hv with h | h | h | h <;> simp [h]
          simp only [List.append_assoc, List.mem_append] at hv2
          rcases hv2 with h | h | h | h | h
          · exact hin v (.inl h)
          · exact hin v (.inr (.inl h))
          · simp at h; subst h; rw [hv]; rfl
          · exact hin v (.inr (.inr (.inl h)))
          · exact hin v (.inr (.inr (.inr h))))
    have lef := le_trans_same le1 h16 (fun k o1 o2 ho _ _ => upd_ne _ _ _ _ (by rintro rfl; simp only [Fr.rp] at ho; rw [hBn _ (Nat.le_refl _)] at ho; cases ho))
    have hv1 : View (lkp ((n, .rows e e' t2 (setRow xss i xs2) s2) :: (m, .dead) :: s.O)) (upd (over [(m, .dead), (B, .row e' t2 xs2 fl)] Om) n (some (.lrow e (hh.set i.toNat B)))) := by
      show View (lkp ((n, _) :: (m, _) :: s.O)) _
      rw [lkp_upd, lkp_upd]
      exact view_store hvw hss hO g1 ⟨g2, g3, g4⟩ h0 hm hmn hB rfl hBn hBh
    have hl1 : LentOk (lkp ((n, .rows e e' t2 (setRow xss i xs2) s2) :: (m, .dead) :: s.O)) (upd (over [(m, .dead), (B, .row e' t2 xs2 fl)] Om) n (some (.lrow e (hh.set i.toNat B)))) (F.rp S1 (upd β B (β m)) (upd (over [(m, .dead), (B, .row e' t2 xs2 fl)] Om) n (some (.lrow e (hh.set i.toNat B)))) (w.setRow b1 ((arr.toList.take o1 ++ x1) ++ ([a.eval y] ++ (z1 ++ rest))).toArray)) a.tmps := by
      intro k e3 e3' t3 xss3 s3 d3 i3 jo3 hk hl3
      rw [lkp_upd, lkp_upd] at hk
      by_cases e1 : k = n
      · subst e1; rw [upd_same] at hk; cases hk
        rcases hss with ⟨_, rfl, _⟩ | ⟨_, rfl, _⟩ <;> cases hl3
      · rw [upd_ne _ _ _ _ e1] at hk
        by_cases e2 : k = m
        · subst e2; rw [upd_same] at hk; cases hk
        · rw [upd_ne _ _ _ _ e2] at hk
          obtain ⟨f0, hs3, q3, f1, f2, f3⟩ := hlo k _ _ _ _ _ _ _ _ hk hl3
          refine ⟨f0, hs3, q3, ?_, f2, RelL_le lef _ f3⟩
          have hkb := hvw.small _ _ hk
          rw [upd_ne _ _ _ _ e1]
          have e0 : lkp ([] : Upd) k = none := rfl
          have hkB : k ≠ B := by omega
          simp [R.over, lkp_cons, e2, hkB, e0, f1]
    have hput : a.put o.dst undef = a := by rw [hdst]; rfl
    refine wp_skip' (w' := w.setRow b1 ((arr.toList.take o1 ++ x1) ++ ([a.eval y] ++ (z1 ++ rest))).toArray) ?_ (by rw [hput]; refine hK ⟨s.σ, (n, .rows e e' t2 (setRow xss i xs2) s2) :: (m, .dead) :: s.O⟩ a _ ⟨S1, upd β B (β m), _, h15, hs.le lef, hv1, hl1, hsz, hdf⟩ h)
    · simp only [Nat.mul_one, Nat.add_zero] at hX
      have hr2 : (Instr.storeAt T (.pointer (some ⟨b1, o1 + i.toNat, none⟩)) (a.eval y)).run P w = .ok () (w.setRow b1 ((arr.toList.take o1 ++ x1) ++ ([a.eval y] ++ (z1 ++ rest))).toArray) := hr
      simp [execOp, ho, hX, hr2]

/-- an empty frozen row, without memory -/
theorem newNilF {fl : Bool} {F : Fr} {S : CellSet} {β : Nat → Place} {O : Nat → Option AObj} {w : World} (h : Core F S β O w) {m : Nat} {e : TypeId} {t : Ty} (hm : O m = none) :
    Core F S (upd β m (none, 0)) (upd O m (some (.row e t [] fl))) w ∧ (F.rp S β O w).le (F.rp S (upd β m (none, 0)) (upd O m (some (.row e t [] fl))) w) := by
  refine h.change (fun k => k = m) rfl rfl rfl (Nat.le_refl _) (Nat.le_refl _) (fun _ _ _ => rfl) (fun _ _ h => h) (fun _ _ _ _ h => h) ?_ ?_ ?_ ?_ ?_ (fun _ _ h => .inl h) h.dom ?_ ?_
  · intro k hk; exact ⟨upd_ne _ _ _ _ hk, upd_ne _ _ _ _ hk⟩
  · rintro k ok hk rfl; rw [hm] at hk; cases hk
  · rintro le k ok hk rfl
    rw [upd_same] at hk; cases hk
    exact .inl ⟨by simp [Fr.rp, upd_same], rfl⟩
  · rintro k ok b off rfl _ _ hb
    rw [upd_same] at hb; cases hb
  · rintro k k' ok ok' b x y rfl _ _ _ _ hb _
    rw [upd_same] at hb; cases hb
  · rintro b i k ok off hs hk hlk hb
    by_cases e1 : k = m
    · subst e1; rw [upd_same] at hb; cases hb
    · rw [upd_ne _ _ _ _ e1] at hk hb
      exact h.still b i k ok off hs hk hlk hb
  · rintro k e1 t1 xs1 b off i rfl _ hb _ _
    rw [upd_same] at hb; cases hb

/-- as many as are wanted -/
theorem newNils {fl : Bool} {F : Fr} {S : CellSet} {β : Nat → Place} {O : Nat → Option AObj} {w : World} (h : Core F S β O w) {B : Nat} (hB : ∀ k, B ≤ k → O k = none) {e : TypeId} {t : Ty} : ∀ len : Nat, ∃ β' O',
    Core F S β' O' w ∧ (F.rp S β O w).le (F.rp S β' O' w) ∧ (∀ k, k < B → O' k = O k ∧ β' k = β k) ∧ (∀ j, j < len → O' (B + j) = some (.row e t [] fl) ∧ β' (B + j) = (none, 0)) ∧ ∀ k, B + len ≤ k → O' k = none
  | 0 => ⟨β, O, h, le_refl _, fun _ _ => ⟨rfl, rfl⟩, fun _ hj => absurd hj (by omega), hB⟩
  | len + 1 => by
    obtain ⟨β', O', h1, h2, h3, h4, h5⟩ := newNils h hB (e := e) (t := t) len
    obtain ⟨h6, h7⟩ := newNilF h1 (m := B + len) (e := e) (t := t) (h5 _ (Nat.le_refl _))
    refine ⟨_, _, h6, le_trans_same h2 h7 ?_, ?_, ?_, ?_⟩
    · intro k o o' ho _ _
      have hk : k < B := by
        refine Nat.lt_of_not_le fun hk => ?_
        have := hB k hk
        simp only [Fr.rp] at ho
        rw [this] at ho; cases ho
      simp only [Fr.rp]
      rw [upd_ne _ _ _ _ (by omega)]; exact (h3 k hk).2
    · intro k hk
      rw [upd_ne _ _ _ _ (by omega), upd_ne _ _ _ _ (by omega)]; exact h3 k hk
    · intro j hj
      by_cases e1 : j = len
      · subst e1; rw [upd_same, upd_same]; exact ⟨rfl, rfl⟩
      · rw [upd_ne _ _ _ _ (by omega), upd_ne _ _ _ _ (by omega)]; exact h4 j (by omega)
    · intro k hk
      rw [upd_ne _ _ _ _ (by omega)]; exact h5 k (by omega)

theorem make_run (hE : EnvOk P c) {T : TypeId} {X Y : Operand} (ho : o.op = .makeSlice T X Y) {e : TypeId} (hTu : P.underlying T = some (.slice e)) {ee : TE} (hee : lkp c.te e = some ee) {i : TypeInfo} {zv : Value} (hi : P.info? e = some i) (hib : i.bytes ≤ 8192) (hiz : i.zero = some zv) (hzs : zv.cells.size = ee.sz)
    {k1 k2 : IntKind} {n m : Int} (hX : a.eval X = .int k1 n) (hY : a.eval Y = .int k2 m) {len : Nat} (hlen : mkLen n m = some len) :
    (execOp a.eval o).run P w = .ok (.value (.slice (some ⟨w.heap.size, 0, none⟩) len m.toNat)) { w with heap := w.heap.push (.cells (Builtin.zeroCells zv.cells m.toNat) e (0, 0)) } ∧ len ≤ m.toNat := by
  unfold mkLen at hlen
  split at hlen
  · rename_i hb
    obtain ⟨h0, h1, h2⟩ := hb
    simp only [Option.some.injEq] at hlen
    have h2' : m ≤ 4294967296 := by simpa [mostLen] using h2
    refine ⟨?_, by omega⟩
    have w1 := wrap_id h0 (by omega : n ≤ 4294967296)
    have w2 := wrap_id (by omega : 0 ≤ m) h2'
    have hbig : ¬ ((i.bytes : Int) * m > 2 ^ 48) := by
      have : (i.bytes : Int) * m ≤ 8192 * 4294967296 := Int.mul_le_mul (by omega) h2' (by omega) (by omega)
      omega
    have hc1 : (decide (m < 0) || decide ((i.bytes : Int) * m > 2 ^ 48) || decide (n < 0) || decide (n > m)) = false := by
      simp only [Bool.or_eq_false_iff, decide_eq_false_iff_not]
      exact ⟨⟨⟨by omega, hbig⟩, by omega⟩, by omega⟩
    simp only [execOp, ho, hX, hY, Instr.makeSlice, Sem.run_bind, run_underlying hTu, Result.andThen_ok, asInt, asIntOf, Sem.run_pure, typeInfo, run_program, hi, w1, w2, Sem.run_ite]
    rw [if_neg (by simpa using hc1)]
    simp only [run_askRoom, Result.andThen_ok, sizeOf_run (hE.te e ee hee)]
    by_cases h5 : m.toNat * ee.sz = 0
    · rw [if_pos h5]
      have e1 : ((Array.range (m.toNat * ee.sz)).map fun x => (#[] : Array Value)[x % (#[] : Array Value).size]!) = Builtin.zeroCells zv.cells m.toNat := by
        have hx : m.toNat * zv.cells.size = 0 := by rw [hzs]; exact h5
        unfold Builtin.zeroCells
        rw [h5, hx]; simp
      rw [e1]
      simp [newRow, hlen]
    · rw [if_neg h5]
      have hzv : (zeroValue e).run P w = .ok zv w := by simp [zeroValue, typeInfo, hi, hiz]
      rw [hzv]
      simp only [Result.andThen_ok]
      have e1 : ((Array.range (m.toNat * ee.sz)).map fun x => zv.cells[x % zv.cells.size]!) = Builtin.zeroCells zv.cells m.toNat := by rw [← hzs]; rfl
      rw [e1]
      simp [newRow, hlen]
  · cases hlen

theorem RelLs_nils {fl : Bool} {p : RP} {e : TypeId} {t : Ty} : ∀ {hs : List Nat}, (∀ q ∈ hs, p.O q = some (.row e t [] fl) ∧ p.β q = (none, 0)) → RelLs p (hs.map .row) (List.replicate hs.length (.slice none 0 0))
  | [], _ => rfl
  | q :: hs, h => by
    refine ⟨[.slice none 0 0], _, rfl, ?_, RelLs_nils fun q hq => h q (List.mem_cons_of_mem _ hq)⟩
    obtain ⟨h1, h2⟩ := h q List.mem_cons_self
    unfold RelL; rw [h1]; simp [h2, addrOf]

theorem view_new {s1 : RSt} {fl : Bool} (hss : s1 = .full ∧ fl = true ∨ s1 = .own ∧ fl = false) {O Om Om' : Nat → Option AObj} (h : View O Om) {B len k : Nat} {e e' : TypeId} {t : Ty} (hB : bigName ≤ B) (hBn : ∀ k, B ≤ k → Om k = none) (hBh : ∀ n e hs, Om n = some (.lrow e hs) → ∀ q ∈ hs, q < B)
    (hk : O k = none) (hkb : k < bigName) (h3 : ∀ k, k < B → Om' k = Om k) (h4 : ∀ j, j < len → Om' (B + j) = some (.row e' t [] fl)) (h5 : ∀ k, B + len ≤ k → Om' k = none) :
    View (upd O k (some (.rows e e' t (List.replicate len []) s1))) (upd Om' k (some (.lrow e (List.range' B len)))) := by
  have hlr : ∀ m e2 hs2, m ≠ k → upd Om' k (some (.lrow e (List.range' B len))) m = some (.lrow e2 hs2) → Om m = some (.lrow e2 hs2) := by
    intro m e2 hs2 hm hh
    rw [upd_ne _ _ _ _ hm] at hh
    by_cases h1 : m < B
    · rw [h3 m h1] at hh; exact hh
    · by_cases h2 : m < B + len
      · have := h4 (m - B) (by omega)
        rw [show B + (m - B) = m by omega] at this
        rw [this] at hh; cases hh
      · rw [h5 m (by omega)] at hh; cases hh
  refine ⟨?_, ?_, ?_, ?_, ?_, ?_, ?_⟩
  · intro m o2 hm
    by_cases e1 : m = k
    · subst e1; exact hkb
    · rw [upd_ne _ _ _ _ e1] at hm; exact h.small m o2 hm
  · intro m hb hpl
    by_cases e1 : m = k
    · subst e1; rw [upd_same] at hpl; cases hpl
    · rw [upd_ne _ _ _ _ e1] at hpl ⊢
      rw [upd_ne _ _ _ _ e1, h3 m (by omega)]; exact h.plain m hb hpl
  · intro m e2 e2' t2 xss2 s2 hm
    by_cases e1 : m = k
    · subst e1; rw [upd_same] at hm; cases hm
      refine ⟨_, upd_same _ _ _, by simp, List.nodup_range', fun i q xs hq hx => ?_⟩
      have hi : i < len := by have := (List.getElem?_eq_some_iff.1 hq).1; simpa using this
      rw [List.getElem?_range' hi] at hq
      rw [List.getElem?_replicate, if_pos hi] at hx
      cases hq; cases hx
      refine ⟨by omega, fun _ => ?_⟩
      rw [upd_ne _ _ _ _ (by omega), Nat.one_mul, h4 i hi]
      rcases hss with ⟨rfl, rfl⟩ | ⟨rfl, rfl⟩ <;> rfl
    · rw [upd_ne _ _ _ _ e1] at hm
      obtain ⟨hs2, f1, f2, f3, f4⟩ := h.rows m _ _ _ _ _ hm
      have hmb := h.small _ _ hm
      refine ⟨hs2, by rw [upd_ne _ _ _ _ e1, h3 m (by omega)]; exact f1, f2, f3, fun j q' xs hq' hx => ?_⟩
      obtain ⟨g4, g5⟩ := f4 j q' xs hq' hx
      refine ⟨g4, fun hne => ?_⟩
      have := hBh _ _ _ f1 q' (List.mem_of_getElem? hq')
      rw [upd_ne _ _ _ _ (by omega), h3 q' this]
      exact g5 hne
  · intro m e2 hs2 hm
    by_cases e1 : m = k
    · subst e1; rw [upd_same] at hm; cases hm
    · rw [upd_ne _ _ _ _ e1] at hm; exact h.lrow m _ _ hm
  · intro m m' a1 a2 b1 b2 h1 h2 hne
    by_cases e1 : m = k
    · subst e1
      rw [upd_same] at h1; cases h1
      intro q hq hq2
      have := hBh _ _ _ (hlr m' _ _ (Ne.symm hne) h2) q hq2
      rw [List.mem_range'] at hq
      obtain ⟨i, _, rfl⟩ := hq
      omega
    · by_cases e2 : m' = k
      · subst e2
        rw [upd_same] at h2; cases h2
        intro q hq hq2
        have := hBh _ _ _ (hlr m _ _ e1 h1) q hq
        rw [List.mem_range'] at hq2
        obtain ⟨i, _, rfl⟩ := hq2
        omega
      · exact h.apart m m' _ _ _ _ (hlr _ _ _ e1 h1) (hlr _ _ _ e2 h2) hne
  · refine ⟨B + len, fun m hm => ?_, fun m e2 hs2 hm q hq => ?_⟩
    · rw [upd_ne _ _ _ _ (by omega)]; exact h5 m hm
    · by_cases e1 : m = k
      · subst e1; rw [upd_same] at hm; cases hm
        rw [List.mem_range'] at hq
        obtain ⟨i, _, rfl⟩ := hq
        omega
      · have := hBh _ _ _ (hlr _ _ _ e1 hm) q hq; omega
  · intro m e2 hs2 hm
    by_cases e1 : m = k
    · subst e1; rw [upd_same] at hm; cases hm
      refine ⟨hkb, fun q hq => ?_⟩
      rw [List.mem_range'] at hq
      obtain ⟨i, _, rfl⟩ := hq
      omega
    · exact h.hid m _ _ (hlr _ _ _ e1 hm)

theorem specMake_ok {s1 : RSt} {fl : Bool} (hss : s1 = .full ∧ fl = true ∨ s1 = .own ∧ fl = false) (hE : EnvOk P c) {T : TypeId} {X Y : Operand} (ho : o.op = .makeSlice T X Y) {te : TE} (ht : lkp c.te T = some te) {e : TypeId} (hd : te.d = .slice e) {ee : TE} (hee : lkp c.te e = some ee) {e' : TypeId} {g : TypeId} {t : Ty} (hz : ee.z = [.nil g t])
    (hel : eltOk c T (.sl t) = true) (hfr : (lkp s.O (o.dst.getD noSlot * 8)).isNone = true) (hbig : o.dst.getD noSlot * 8 < bigName) {x y : AV} (hx : gv c s.σ X 0 = some x) (hy : gv c s.σ Y 0 = some y) {n m : Int} (hxn : intOf? x = some n) (hym : intOf? y = some m) {len : Nat} (hlen : mkLen n m = some len)
    (h : putK nt s o (.one (.row (o.dst.getD noSlot * 8))) ((o.dst.getD noSlot * 8, .rows e e' t (List.replicate len []) s1) :: s.O) K = some r) (hg : GoodR F nt s a w)
    (hK : ∀ s' a' w', GoodR F nt s' a' w' → K s' = some r → Kn a' w') : o.wp P a w Kn Q := by
  obtain ⟨S, β, Om, hc, hs, hvw, hlo, hsz, hdf⟩ := hg
  obtain ⟨e1, ee1, hTu, hee1, hsz1, hpos, te1, hte1, hde1⟩ := eltOk_spec hE hel
  rw [ht] at hte1; cases hte1
  rw [hd] at hde1; cases hde1
  rw [hee] at hee1; cases hee1
  obtain ⟨i, zv, hi, hisz, hib, hiz, hzr, hz1, hzs⟩ := (hE.te e ee hee).info
  obtain ⟨k1, hX⟩ := int_rel hxn (gv_rel hE hs hx)
  obtain ⟨k2, hY⟩ := int_rel hym (gv_rel hE hs hy)
  have hfr' : lkp s.O (o.dst.getD noSlot * 8) = none := by
    cases hq : lkp s.O (o.dst.getD noSlot * 8) with
    | none => rfl
    | some _ => rw [hq] at hfr; cases hfr
  have hdn := hvw.none hbig hfr'
  obtain ⟨B, hB, hBn, hBh⟩ := hvw.big
  obtain ⟨β1, O1, hc1, le1, h3, h4, h5⟩ := newNils (fl := fl) hc hBn (e := e') (t := t) len
  obtain ⟨hrun, hle⟩ := make_run (o := o) (a := a) (w := w) hE ho hTu hee hi hib hiz hzs hX hY hlen
  have hzc : zv.cells = #[.slice none 0 0] := by
    have := hzr (F.rp S β Om w)
    rw [hz] at this
    obtain ⟨c0, d0, e0, h7, h8⟩ := this
    simp only [RelL] at h7
    simp only [RelLs] at h8
    subst h7; subst h8
    apply Array.ext'
    simpa using e0
  have hcells : (Builtin.zeroCells zv.cells m.toNat).toList = List.replicate m.toNat (.slice none 0 0) := by
    rw [hzc]
    refine List.eq_replicate_iff.2 ⟨by simp [Builtin.zeroCells], fun b hb => ?_⟩
    simp only [Builtin.zeroCells, Array.toList_map, List.mem_map, Array.toList_range, List.mem_range] at hb
    obtain ⟨j, _, rfl⟩ := hb
    simp [Nat.mod_one]
  have hnone1 : O1 (o.dst.getD noSlot * 8) = none := by rw [(h3 _ (by have := hbig; exact Nat.lt_of_lt_of_le hbig hB)).1]; exact hdn
  obtain ⟨h6, h7⟩ := hc1.new hnone1 (.lrow e (List.range' B len)) (by intro _ _ _ hh; cases hh) (.cells (Builtin.zeroCells zv.cells m.toNat) e (0, 0)) m.toNat (by
    intro q hq hb hw
    refine .inr ⟨w.heap.size, 0, _, List.replicate len (.slice none 0 0), List.replicate (m.toNat - len) (.slice none 0 0), by rw [hb], hw, by rw [hb]; simpa using hle, ?_, ?_, ?_, by simp, ?_⟩
    · rw [hcells]; simp only [List.drop_zero]
      rw [List.replicate_append_replicate]; congr 1; omega
    · have := RelLs_nils (fl := fl) (p := F.rp S β1 O1 w) (e := e') (t := t) (hs := List.range' B len) (by
        intro q hq
        rw [List.mem_range'] at hq
        obtain ⟨j, hj, rfl⟩ := hq
        rw [Nat.one_mul]
        exact h4 j hj)
      rw [List.length_range'] at this
      exact RelLs_le hq _ this
    · rw [hb]
      have : (Builtin.zeroCells zv.cells m.toNat).size = m.toNat := by rw [← Array.length_toList, hcells]; simp
      rw [this]; simp
    · intro v hv
      rw [hcells] at hv
      rw [(List.mem_replicate.1 hv).2]; rfl)
  obtain ⟨σ', k0, k1', k2', k3⟩ := putK_some h
  have lef : (F.rp S β Om w).le _ := le_trans_same le1 h7 (by
    intro k o1 o2 ho1 _ _
    simp only [Fr.rp] at ho1 ⊢
    have hk : k < B := by
      refine Nat.lt_of_not_le fun hk => ?_
      rw [hBn k hk] at ho1; cases ho1
    rw [upd_ne _ _ _ _ (by rintro rfl; rw [hdn] at ho1; cases ho1)]
    exact (h3 k hk).2)
  refine wp_value hrun (hK ⟨σ', _⟩ _ _ ⟨S, _, _, h6, ?_, ?_, ?_, by rw [size_put, hsz], by rw [defers_put, hdf]⟩ k3)
  · show Slots _ (lkp σ') _
    rw [k2']
    refine (hs.le lef).put (fun e he => by rw [hsz]; exact k1' e he) (.inr ?_)
    unfold RelL; simp only [Fr.rp, upd_same]
    simp [addrOf]
  · show View (lkp ((_, _) :: s.O)) _
    rw [lkp_upd]
    exact view_new hss hvw hB hBn hBh hfr' hbig (fun k hk => (h3 k hk).1) (fun j hj => (h4 j hj).1) h5
  · intro k e3 e3' t3 xss3 s3 d3 i3 jo3 hk hl3
    rw [lkp_upd] at hk
    by_cases e1 : k = o.dst.getD noSlot * 8
    · subst e1; rw [upd_same] at hk; cases hk
      rcases hss with ⟨rfl, _⟩ | ⟨rfl, _⟩ <;> cases hl3
    · rw [upd_ne _ _ _ _ e1] at hk
      refine (hlo.go lef (free_spec k0) (fun j e hs hj => ?_)) k _ _ _ _ _ _ _ _ hk hl3
      have hjb := (hvw.hid _ _ _ hj).1
      rw [upd_ne _ _ _ _ (by rintro rfl; rw [hdn] at hj; cases hj), (h3 j (by omega)).1]
      exact hj


section
variable {S : CellSet} {β : Nat → Place}
/-- what is in memory, with rows of rows told as rows -/
def flatM (p : Nat → Bool) (O Om : Nat → Option AObj) (n : Nat) : Option AObj :=
  bif p n then match O n with
    | some (.rows e _ t xss .full) => some (.row e (.sl t) xss false)
    | _ => Om n
  else Om n
theorem flatM_hit {p : Nat → Bool} {O Om : Nat → Option AObj} {n : Nat} {e e' : TypeId} {t : Ty} {xss : List (List t.V)} (hp : p n = true) (h : O n = some (.rows e e' t xss .full)) : flatM p O Om n = some (.row e (.sl t) xss false) := by
  unfold flatM; rw [hp, h]; rfl
theorem flatM_miss {p : Nat → Bool} {O Om : Nat → Option AObj} {n : Nat} (h : ¬ (p n = true ∧ ∃ e e' t xss, O n = some (.rows e e' t xss .full))) : flatM p O Om n = Om n := by
  unfold flatM
  cases hp : p n with
  | false => rfl
  | true =>
    simp only [cond_true]
    split
    · rename_i e e' t xss hO; exact (h ⟨hp, _, _, _, _, hO⟩).elim
    · rfl

theorem RelLs_told {Om : Nat → Option AObj} (hc : Core F S β Om w) {e' : TypeId} {t : Ty} : ∀ {hs : List Nat} {xss : List (List t.V)} {cs : List Value}, hs.length = xss.length →
    (∀ (i q : Nat) (xs : List t.V), hs[i]? = some q → xss[i]? = some xs → Om q = some (.row e' t xs true)) → RelLs (F.rp S β Om w) (hs.map .row) cs → RdsOf (Rd S w (.sl t)) cs xss
  | [], [], _, _, _, h => h
  | [], _ :: _, _, hl, _, _ => by simp at hl
  | _ :: _, [], _, hl, _, _ => by simp at hl
  | q :: hs, xs :: xss, _, hl, hq, ⟨c, d, e, h1, h2⟩ => by
    have := RelL_len _ h1
    match c, this with
    | [v], _ =>
      exact ⟨[v], d, e, row_told hc (hq 0 q xs rfl rfl) h1, RelLs_told hc (by simpa using hl) (fun i q xs a b => hq (i + 1) q xs a b) h2⟩

theorem flatM_lrow {p : Nat → Bool} {O Om : Nat → Option AObj} {n : Nat} {e : TypeId} {hs : List Nat} (h : flatM p O Om n = some (.lrow e hs)) : Om n = some (.lrow e hs) := by
  by_cases hd : p n = true ∧ ∃ e e' t xss, O n = some (.rows e e' t xss .full)
  · obtain ⟨hp, e2, e2', t2, xss2, hO⟩ := hd
    rw [flatM_hit hp hO] at h; cases h
  · rw [flatM_miss hd] at h; exact h

theorem Core.flat {O Om : Nat → Option AObj} (h : Core F S β Om w) (hv : View O Om) (p : Nat → Bool) : Core F S β (flatM p O Om) w ∧ (F.rp S β Om w).le (F.rp S β (flatM p O Om) w) := by
  have hD : ∀ n o, Om n = some o → (p n = true ∧ ∃ e e' t xss, O n = some (.rows e e' t xss .full)) → ∃ e e' t xss hs, O n = some (.rows e e' t xss .full) ∧ flatM p O Om n = some (.row e (.sl t) xss false) ∧ o = .lrow e hs ∧ HsOk Om hs e' t xss .full := by
    rintro n o ho ⟨hp, e, e', t, xss, hn⟩
    obtain ⟨hs, h1, h2⟩ := hv.rows n _ _ _ _ _ hn
    rw [ho] at h1; cases h1
    exact ⟨e, e', t, xss, hs, hn, flatM_hit hp hn, rfl, h2⟩
  have hnone : ∀ n, flatM p O Om n ≠ none → Om n ≠ none := by
    intro n hn hm
    by_cases hd : p n = true ∧ ∃ e e' t xss, O n = some (.rows e e' t xss .full)
    · obtain ⟨hp, e, e', t, xss, hO⟩ := hd
      obtain ⟨hs, h1, _⟩ := hv.rows n _ _ _ _ _ hO
      rw [hm] at h1; cases h1
    · rw [flatM_miss hd] at hn; exact hn hm
  refine h.change (fun n => p n = true ∧ ∃ e e' t xss, O n = some (.rows e e' t xss .full)) rfl rfl rfl (Nat.le_refl _) (Nat.le_refl _) (fun _ _ _ => rfl) (fun _ _ h => h) (fun _ _ _ _ h => h) ?_ ?_ ?_ ?_ ?_ (fun _ _ h => .inl h) h.dom ?_ ?_
  · intro n hn
    exact ⟨flatM_miss hn, rfl⟩
  · intro n o ho hd
    obtain ⟨e, e', t, xss, hs, h1, h2, rfl, h3⟩ := hD n o ho hd
    exact ⟨_, h2, .inr (.inr ⟨_, _, _, _, rfl, h3.1.symm, rfl⟩), fun _ => rfl⟩
  · intro le n o ho hd
    cases hm : Om n with
    | none => exact (hnone n (by rw [ho]; exact Option.some_ne_none _) hm).elim
    | some om =>
      obtain ⟨e, e', t, xss, hs, h1, h2, rfl, h3, _, h4⟩ := hD n om hm hd
      rw [h2] at ho; cases ho
      rcases h.obj n _ hm with ⟨g1, g2⟩ | ⟨b, o, arr, cs, rest, g1, g2, g3, g4, g5, g6, g7, g8⟩
      · subst g2
        exact .inl ⟨g1, List.length_eq_zero_iff.1 h3.symm⟩
      · exact .inr ⟨b, o, arr, cs, rest, g1, g2, by rw [← h3]; exact g3, g4, RelLs_told h h3 (fun i q xs a b => (h4 i q xs a b).2 (by intro hh; cases hh)) g5, by simpa [Ty.size, Fr.rp] using g6, g7, g8⟩
  · intro n o b off hd ho hl hb
    cases hm : Om n with
    | none => exact (hnone n (by rw [ho]; exact Option.some_ne_none _) hm).elim
    | some om =>
      obtain ⟨e, e', t, xss, hs, h1, h2, rfl, h3⟩ := hD n om hm hd
      exact h.far n _ b off hm rfl hb
  · intro n m o o' b x y hd ho ho' hl hl' hb hb'
    cases hm : Om n with
    | none => exact (hnone n (by rw [ho]; exact Option.some_ne_none _) hm).elim
    | some om =>
      cases hm' : Om m with
      | none => exact (hnone m (by rw [ho']; exact Option.some_ne_none _) hm').elim
      | some om' =>
        obtain ⟨e, e', t, xss, hs, h1, h2, rfl, h3⟩ := hD n om hm hd
        refine h.apart n m _ om' b x y hm hm' rfl ?_ hb hb'
        by_cases hd2 : p m = true ∧ ∃ e e' t xss, O m = some (.rows e e' t xss .full)
        · obtain ⟨e2, e2', t2, xss2, hs2, _, _, rfl, _⟩ := hD m om' hm' hd2
          rfl
        · rw [flatM_miss hd2, hm'] at ho'; cases ho'; exact hl'
  · intro b i n o off hs ho hl hb
    by_cases hd : p n = true ∧ ∃ e e' t xss, O n = some (.rows e e' t xss .full)
    · exfalso
      cases hm : Om n with
      | none => exact hnone n (by rw [ho]; exact Option.some_ne_none _) hm
      | some om =>
        obtain ⟨e, e', t, xss, hs2, h1, h2, rfl, h3⟩ := hD n om hm hd
        obtain ⟨_, _, _, h4, _⟩ := h.still b i n _ off hs hm rfl hb
        cases h4
    · rw [flatM_miss hd] at ho
      exact h.still b i n o off hs ho hl hb
  · rintro n e t xs b off i ⟨hp, e1, e1', t1, xss1, hn⟩ ho
    rw [flatM_hit hp hn] at ho; cases ho

/-- some rows of rows are told as rows of values -/
theorem View.flat {O O' Om : Nat → Option AObj} (hv : View O Om) {p : Nat → Bool} (h1 : ∀ n, p n = true → ∀ e e' t xss, O n = some (.rows e e' t xss .full) → O' n = some (.row e (.sl t) xss false))
    (h2 : ∀ n, ¬ (p n = true ∧ ∃ e e' t xss, O n = some (.rows e e' t xss .full)) → O' n = O n) : View O' (flatM p O Om) := by
  have hmiss : ∀ q, bigName ≤ q → flatM p O Om q = Om q := by
    intro q hq
    refine flatM_miss ?_
    rintro ⟨_, e, e', t, xss, hO⟩
    have := hv.small _ _ hO
    omega
  refine ⟨?_, ?_, ?_, ?_, ?_, ?_, ?_⟩
  · intro n o ho
    by_cases hd : p n = true ∧ ∃ e e' t xss, O n = some (.rows e e' t xss .full)
    · obtain ⟨_, e, e', t, xss, hO⟩ := hd
      exact hv.small n _ hO
    · rw [h2 n hd] at ho; exact hv.small n _ ho
  · intro n hb hp
    by_cases hd : p n = true ∧ ∃ e e' t xss, O n = some (.rows e e' t xss .full)
    · obtain ⟨hpn, e, e', t, xss, hO⟩ := hd
      rw [flatM_hit hpn hO, h1 n hpn _ _ _ _ hO]
    · rw [flatM_miss hd, h2 n hd]
      rw [h2 n hd] at hp
      exact hv.plain n hb hp
  · intro n e e' t xss s hn
    by_cases hd : p n = true ∧ ∃ e e' t xss, O n = some (.rows e e' t xss .full)
    · obtain ⟨hpn, e2, e2', t2, xss2, hO⟩ := hd
      rw [h1 n hpn _ _ _ _ hO] at hn; cases hn
    · rw [h2 n hd] at hn
      obtain ⟨hs, g1, g2, g3, g4⟩ := hv.rows n _ _ _ _ _ hn
      refine ⟨hs, by rw [flatM_miss hd]; exact g1, g2, g3, fun i q xs hq hx => ?_⟩
      obtain ⟨g5, g6⟩ := g4 i q xs hq hx
      exact ⟨g5, fun hne => by rw [hmiss q g5]; exact g6 hne⟩
  · intro n e hs hn
    by_cases hd : p n = true ∧ ∃ e e' t xss, O n = some (.rows e e' t xss .full)
    · obtain ⟨hpn, e2, e2', t2, xss2, hO⟩ := hd
      rw [h1 n hpn _ _ _ _ hO] at hn; cases hn
    · rw [h2 n hd] at hn; exact hv.lrow n _ _ hn
  · intro n m e hs e2 hs2 h1 h2 hne
    exact hv.apart n m _ _ _ _ (flatM_lrow h1) (flatM_lrow h2) hne
  · obtain ⟨B, h1, h2⟩ := hv.bound
    refine ⟨B, fun k hk => ?_, fun n e hs hn => h2 n e hs (flatM_lrow hn)⟩
    by_cases hd : p k = true ∧ ∃ e e' t xss, O k = some (.rows e e' t xss .full)
    · obtain ⟨_, e, e', t, xss, hO⟩ := hd
      obtain ⟨hs, h3, _⟩ := hv.rows k _ _ _ _ _ hO
      rw [h1 k hk] at h3; cases h3
    · rw [flatM_miss hd]; exact h1 k hk
  · intro n e hs hn
    exact hv.hid n e hs (flatM_lrow hn)

theorem flatNs_hit {O : List (Nat × AObj)} : ∀ {ns : List Nat} {n : Nat} {e e' : TypeId} {t : Ty} {xss : List (List t.V)}, memB ns n = true → lkp O n = some (.rows e e' t xss .full) → lkp (flatNs O ns) n = some (.row e (.sl t) xss false)
  | m :: ns, n, e, e', t, xss, h, hO => by
    unfold flatNs
    by_cases hm : m = n
    · subst hm
      rw [hO]
      simp only [lkp_cons, if_pos]
    · have : memB ns n = true := by
        simp only [memB, Bool.or_eq_true] at h
        rcases h with h | h
        · exact (hm (Nat.eq_of_beq_eq_true h)).elim
        · exact h
      split
      · rw [lkp_cons, if_neg (Ne.symm hm)]; exact flatNs_hit this hO
      · exact flatNs_hit this hO
theorem flatNs_mem {O : List (Nat × AObj)} : ∀ {ns : List Nat} {n : Nat} {o : AObj}, lkp (flatNs O ns) n = some o → memB ns n = true ∧ ∃ e e' t xss, lkp O n = some (.rows e e' t xss .full)
  | [], _, _, h => by cases h
  | m :: ns, n, o, h => by
    unfold flatNs at h
    split at h
    · rename_i e e' t xss hO
      rw [lkp_cons] at h
      by_cases hm : n = m
      · subst hm; exact ⟨by simp [memB], _, _, _, _, hO⟩
      · rw [if_neg hm] at h
        obtain ⟨h1, h2⟩ := flatNs_mem h
        exact ⟨by simp [memB, h1], h2⟩
    · obtain ⟨h1, h2⟩ := flatNs_mem h
      exact ⟨by simp [memB, h1], h2⟩

theorem GoodR.flat {nt : Nat} {st : St} {a : Act} (h : GoodR F nt st a w) (ns : List Nat) : GoodR F nt ⟨st.σ, flatNs st.O ns ++ st.O⟩ a w := by
  obtain ⟨S, β, Om, hc, hs, hv, hl, hsz, hdf⟩ := h
  obtain ⟨hc', le⟩ := hc.flat hv (memB ns)
  have e1 : ∀ n, memB ns n = true → ∀ e e' t xss, lkp st.O n = some (.rows e e' t xss .full) → lkp (flatNs st.O ns ++ st.O) n = some (.row e (.sl t) xss false) := by
    intro n hn e e' t xss hO
    rw [lkp_append, flatNs_hit hn hO]
  have e2 : ∀ n, ¬ (memB ns n = true ∧ ∃ e e' t xss, lkp st.O n = some (.rows e e' t xss .full)) → lkp (flatNs st.O ns ++ st.O) n = lkp st.O n := by
    intro n hn
    rw [lkp_append]
    cases hx : lkp (flatNs st.O ns) n with
    | none => rfl
    | some o => exact (hn (flatNs_mem hx)).elim
  refine ⟨S, β, _, hc', hs.le le, hv.flat e1 e2, ?_, hsz, hdf⟩
  intro n e e' t xss sr d i jo hn hls
  by_cases hd : memB ns n = true ∧ ∃ e e' t xss, lkp st.O n = some (.rows e e' t xss .full)
  · obtain ⟨h1, e3, e3', t3, xss3, h2⟩ := hd
    have := e1 n h1 _ _ _ _ h2
    rw [show lkp (⟨st.σ, flatNs st.O ns ++ st.O⟩ : St).O n = _ from this] at hn
    cases hn
  · have hn' : lkp st.O n = some (.rows e e' t xss sr) := by rw [← e2 n hd]; exact hn
    obtain ⟨h0, hs2, q, g1, g2, g3⟩ := hl n _ _ _ _ _ _ _ _ hn' hls
    exact ⟨h0, hs2, q, by rw [flatM_miss hd]; exact g1, g2, RelL_le le _ g3⟩

end

theorem specOp0_ok (hE : EnvOk P c) (hI : Snd P c I) (h : specOp0 c I nt s o K = some r) (hg : GoodR F nt s a w) (hK : ∀ s' a' w', GoodR F nt s' a' w' → K s' = some r → Kn a' w') : o.wp P a w Kn Q := by
  have hp : plainOp c I nt s o K = some r → o.wp P a w Kn Q := fun h => plainOp_ok hE hI h hg hK
  unfold specOp0 at h
  split at h
  · -- make
    rename_i T l m ho
    cases hT : memB c.rowsT T with
    | false => rw [hT] at h; exact hp h
    | true =>
      rw [hT] at h
      simp only [cond_true, Option.bind_eq_some_iff] at h
      obtain ⟨te, hte, h⟩ := h
      split at h
      · rename_i e hd
        simp only [Option.bind_eq_some_iff] at h
        obtain ⟨ee, hee, h⟩ := h
        split at h
        · rename_i e' g t hde hz
          cases hb : (eltOk c T (.sl t) && eltOk c e t && (lkp s.O (o.dst.getD noSlot * 8)).isNone && Nat.blt (o.dst.getD noSlot * 8) bigName) with
          | false => rw [hb] at h; cases h
          | true =>
            rw [hb] at h
            simp only [Bool.and_eq_true] at hb
            obtain ⟨⟨⟨h1, h2⟩, h3⟩, h4⟩ := hb
            simp only [cond_true, Option.bind_eq_some_iff, bindD] at h
            obtain ⟨x, h5, n, h6, y, h7, m', h8, len, h9, h⟩ := h
            exact specMake_ok (fl := true) (.inl ⟨rfl, rfl⟩) hE ho hte hd hee hz h1 h3 (Nat.le_of_ble_eq_true h4) h5 h7 h6 h8 h9 h hg hK
        · cases h
      · cases h
  · -- an element's place
    rename_i T x i ho
    split at h
    · rename_i n hx
      split at h
      · rename_i e e' t xss sr hO
        cases hb : eltOk c T (.sl t) with
        | false => rw [hb] at h; cases h
        | true =>
          rw [hb] at h
          simp only [cond_true, Option.bind_eq_some_iff, bindD] at h
          obtain ⟨b, h1, k, h2, ys, h3, h⟩ := h
          exact specIndex_ok hE ho hx hO hb h1 h2 h3 h hg hK
      · exact hp h
    · exact hp h
  · -- a load
    rename_i T x ho
    split at h
    · rename_i n i hx
      split at h
      · rename_i e e' t xss d hO hd
        simp only [Option.bind_eq_some_iff] at h
        obtain ⟨te, hte, h⟩ := h
        cases hb : (Nat.beq te.sz 1 && !(aggOf te)) with
        | false => rw [hb] at h; cases h
        | true =>
          rw [hb] at h
          simp only [Bool.and_eq_true, Bool.not_eq_true'] at hb
          simp only [cond_true, Option.bind_eq_some_iff, bindD] at h
          obtain ⟨xs, h1, h⟩ := h
          exact specLoad_ok hE ho hx hO hd hte (beq_sz hb.1) hb.2 h1 (.inl ⟨rfl, rfl, rfl⟩) h hg hK
      · cases h
      · exact hp h
    · exact hp h
  · -- a store
    rename_i T x y ho
    split at h
    · rename_i n i hx
      split at h
      · rename_i e e' t xss j hO
        split at h
        · rename_i m hy
          split at h
          · rename_i e2 t2 xs2 hm
            simp only [Option.bind_eq_some_iff] at h
            obtain ⟨te, hte, h⟩ := h
            cases hb : (Nat.beq te.sz 1 && Nat.beq e2 e' && !(Nat.beq m n) && o.dst.isNone) with
            | false => rw [hb] at h; cases h
            | true =>
              rw [hb] at h
              simp only [Bool.and_eq_true, Bool.not_eq_true', Option.isNone_iff_eq_none] at hb
              obtain ⟨⟨⟨h1, h2⟩, h3⟩, h4⟩ := hb
              obtain rfl := beq_sz h2
              simp only [cond_true, Option.bind_eq_some_iff] at h
              obtain ⟨zs, h5, h⟩ := h
              unfold ifB at h
              cases hij : decide (i = j) with
              | false => rw [hij] at h; cases h
              | true =>
                rw [hij] at h
                simp only [cond_true] at h
                have := of_decide_eq_true hij
                subst this
                refine specStore_ok hE ho h4 (.inl ⟨rfl, rfl, rfl⟩) hx hO hy hm hte (beq_sz h1) ?_ h5 h hg hK
                rintro rfl
                rw [Nat.beq_refl] at h3; cases h3
          · cases h
        · cases h
      · cases h
      · exact hp h
    · exact hp h
  · -- append
    rename_i as ts ho
    split at h
    · rename_i d0 y T U has hts
      split at h
      · rename_i n hn
        split at h
        · rename_i e e' t xss d1 i hO
          simp only [Option.bind_eq_some_iff] at h
          obtain ⟨b, h1, l, h2, te, h3, h⟩ := h
          split at h
          · rename_i e2 hde
            cases hb : (Nat.beq d1 d0 && Nat.beq e2 e' && (slOk c U || strOk c U) && (lkp s.O (o.dst.getD noSlot * 8)).isNone && Nat.blt (o.dst.getD noSlot * 8) bigName) with
            | false => rw [hb] at h; cases h
            | true =>
              rw [hb] at h
              simp only [Bool.and_eq_true] at hb
              obtain ⟨⟨⟨⟨g1, g2⟩, g3⟩, g4⟩, g5⟩ := hb
              obtain rfl := beq_sz g1
              simp only [cond_true, Option.bind_eq_some_iff] at h
              obtain ⟨ys, h4, h⟩ := h
              cases hel : eltOk c T ys.1 with
              | false => rw [hel] at h; cases h
              | true =>
                rw [hel] at h
                simp only [cond_true, Option.bind_eq_some_iff, bindD] at h
                obtain ⟨zs, h5, xs, h6, u, h7, h⟩ := h
                exact specAppend_ok hE ho has hts hO h1 h2 h3 hde g2 g3 g4 (Nat.le_of_ble_eq_true g5) h4 hel h5 h6 h7 h hg hK
          · cases h
        · cases h
      · exact hp h
    · exact hp h
  · -- len
    rename_i as ts ho
    split at h
    · rename_i x T has hts
      split at h
      · rename_i n hx
        split at h
        · rename_i e e' t xss sr hO
          cases hT : slOk c T with
          | false => rw [hT] at h; cases h
          | true =>
            rw [hT] at h
            simp only [cond_true] at h
            exact specLen_ok hE ho has hts hx hO hT h hg hK
        · exact hp h
      · exact hp h
    · exact hp h
  · exact plainOp_ok hE hI h (hg.flat _) hK
  · exact hp h


theorem undef_tmp {σ : List (Nat × AV)} {x : Operand} (h : gv c σ x 0 = some (.one .undef)) : ∃ d, x = .tmp d ∧ d < rootBase ∧ lkp σ d = some (.one .undef) := by
  cases x with
  | tmp d =>
    obtain ⟨h1, h2⟩ := blt_lkp (by simpa [gv] using h)
    exact ⟨d, rfl, h1, h2⟩
  | const v =>
    unfold gv at h
    split at h
    all_goals first
      | (cases h; done)
      | (simp only [Option.bind_eq_some_iff] at h; obtain ⟨te, _, h⟩ := h; split at h <;> cases h)
      | (rename_i hh; cases hh)
  | func f => simp [gv] at h
  | _ => simp [gv] at h

/-- what lies in a slot may be told by a hidden name -/
theorem Slots.hid {p : RP} {σ : List (Nat × AV)} {tmps : Array Value} (hs : Slots p (lkp σ) tmps) {d : Nat} {l : Lf} (hd : d < rootBase) (h : RelL p l [tmps.getD d undef]) : Slots p (lkp ((d, .one l) :: σ)) tmps := by
  intro e v he
  rw [lkp_cons] at he
  split at he
  · rename_i e1; subst e1; cases he
    rw [slotV_lt hd]; exact .inr h
  · exact hs e v he

/-- a table's step that memory does not see -/
theorem tab_pure {n : Nat} {e e' : TypeId} {t : Ty} {xss : List (List t.V)} {s1 s2 : RSt} (h1 : s1.fz = false) (h2 : s2.fz = false) {S S' : CellSet} {β β' : Nat → Place} {Om : Nat → Option AObj} {w' : World} {σ' : List (Nat × AV)} {av : AV} {v : Value}
    (hO : lkp s.O n = some (.rows e e' t xss s1)) (hs : Slots (F.rp S β Om w) (lkp s.σ) a.tmps) (hvw : View (lkp s.O) Om) (hlo : LentOk (lkp s.O) Om (F.rp S β Om w) a.tmps) (hsz : a.tmps.size = nt) (hdf : a.defers = [])
    (hc' : Core F S' β' Om w') (le : (F.rp S β Om w).le (F.rp S' β' Om w')) (k0 : freeSlot s.O o.dst = true) (k1 : ∀ d, o.dst = some d → d < nt) (k2 : lkp σ' = putF o.dst av (lkp s.σ)) (hv : RelAV (F.rp S' β' Om w') av v)
    (hl : ∀ d i jo, s2.lends = some (d, i, jo) → 0 ≤ i ∧ ∃ hs q, Om n = some (.lrow e hs) ∧ hs[i.toNat]? = some q ∧ RelL (F.rp S' β' Om w') (hidL q jo) [(a.put o.dst v).tmps.getD d undef]) :
    GoodR F nt ⟨σ', (n, .rows e e' t xss s2) :: s.O⟩ (a.put o.dst v) w' := by
  obtain ⟨hh, g1, g2, g3, g4⟩ := hvw.rows n _ _ _ _ _ hO
  refine ⟨S', β', Om, hc', ?_, ?_, ?_, by rw [size_put, hsz], by rw [defers_put, hdf]⟩
  · show Slots _ (lkp σ') _
    rw [k2]
    exact (hs.le le).put (fun e he => by rw [hsz]; exact k1 e he) hv
  · show View (lkp ((n, _) :: s.O)) Om
    rw [lkp_upd]
    refine hvw.rowSt hO g1 ⟨g2, g3, fun i' q' xs' a1 a2 => ⟨(g4 i' q' xs' a1 a2).1, fun _ => ?_⟩⟩
    rw [h2, ← h1]
    exact (g4 i' q' xs' a1 a2).2 (by rintro rfl; cases h1)
  · intro m e2 e2' t2 xss2 s3 d2 i2 jo2 hm hl2
    rw [lkp_upd] at hm
    by_cases e3 : m = n
    · subst e3
      rw [upd_same] at hm; cases hm
      exact hl _ _ _ hl2
    · rw [upd_ne _ _ _ _ e3] at hm
      exact (hlo.go le (free_spec k0) (fun _ _ _ h => h)) m _ _ _ _ _ _ _ _ hm hl2

theorem gv_ext {σ : List (Nat × AV)} {d : Nat} {l : Lf} {x : Operand} {T : TypeId} {b : AV} (hu : lkp σ d = some (.one .undef)) (h : gv c σ x T = some b) (hb : b ≠ .one .undef) : gv c ((d, .one l) :: σ) x T = some b := by
  rw [← h]
  refine gv_congr (fun t e => ?_) T
  rw [lkp_cons]
  split
  · rename_i e1; subst e1; subst e
    obtain ⟨_, h2⟩ := blt_lkp (by simpa [gv] using h)
    rw [hu] at h2; exact (hb (Option.some.inj h2).symm).elim
  · rfl

theorem scal_leaves {t : Ty} (h : scal t = true) (x y : t.V) : leaves t x = [.v t x] ∧ subCells [.v t x] 0 1 = some [.v t x] ∧ setCells [.v t y] 0 1 [.v t x] = some [.v t x] ∧ toTy t [.v t x] = some (x, []) ∧ t.size = 1 := by
  cases t <;> simp [scal] at h <;> exact ⟨rfl, rfl, rfl, by simp [toTy, toLeaf, castV], rfl⟩

theorem hidRow {O Om : Nat → Option AObj} (hvw : View O Om) {n : Nat} {e e' : TypeId} {t : Ty} {xss : List (List t.V)} {s1 : RSt} (hO : O n = some (.rows e e' t xss s1)) (h1 : s1.fz = false) {hs : List Nat} (hp : Om n = some (.lrow e hs)) {i : Int} {q : Nat} (hq : hs[i.toNat]? = some q) {xs : List t.V} (hx : ixAt xss i = some xs) :
    bigName ≤ q ∧ Om q = some (.row e' t xs false) := by
  obtain ⟨hh, g1, g2, g3, g4⟩ := hvw.rows n _ _ _ _ _ hO
  rw [hp] at g1; cases g1
  obtain ⟨_, _, hyn⟩ := ixAt_some hx
  obtain ⟨g5, g6⟩ := g4 _ _ _ hq hyn
  refine ⟨g5, ?_⟩
  rw [← h1]
  exact g6 (by rintro rfl; cases h1)

theorem lk_one {Om : Nat → Option AObj} {q : Nat} : (∀ k o', (fun k => if k = q then Om q else none) k = some o' → Om k = some o') ∧ ∀ k o', (fun k => if k = q then Om q else (none : Option AObj)) k = some o' → k ∈ [q] := by
  constructor
  · intro k o' hk
    simp only at hk
    split at hk
    · rename_i e; rw [e]; exact hk
    · cases hk
  · intro k o' hk
    simp only at hk
    split at hk
    · rename_i e; rw [e]; simp
    · cases hk

theorem tabStep_ok (hE : EnvOk P c) (hI : Snd P c I) {k : TabK} (ht : tabOf c s o = some k) (h : tabStep c nt s o K k = some r) (hg : GoodR F nt s a w) (hK : ∀ s' a' w', GoodR F nt s' a' w' → K s' = some r → Kn a' w') : o.wp P a w Kn Q := by
  unfold tabOf at ht
  split at ht
  · -- make
    rename_i T l m ho
    cases hT : memB c.rowsT (T + 1000000) with
    | false => rw [hT] at ht; cases ht
    | true =>
      rw [hT] at ht; cases ht
      simp only [tabStep, Option.bind_eq_some_iff] at h
      obtain ⟨te, hte, h⟩ := h
      split at h
      · rename_i e hd
        simp only [Option.bind_eq_some_iff] at h
        obtain ⟨ee, hee, h⟩ := h
        split at h
        · rename_i e' g t hde hz
          cases hb : (eltOk c T (.sl t) && eltOk c e t && (lkp s.O (o.dst.getD noSlot * 8)).isNone && Nat.blt (o.dst.getD noSlot * 8) bigName) with
          | false => rw [hb] at h; cases h
          | true =>
            rw [hb] at h
            simp only [Bool.and_eq_true] at hb
            obtain ⟨⟨⟨h1, h2⟩, h3⟩, h4⟩ := hb
            simp only [cond_true, Option.bind_eq_some_iff, bindD] at h
            obtain ⟨x, h5, n, h6, y, h7, m', h8, len, h9, h⟩ := h
            exact specMake_ok (fl := false) (.inr ⟨rfl, rfl⟩) hE ho hte hd hee hz h1 h3 (Nat.le_of_ble_eq_true h4) h5 h7 h6 h8 h9 h hg hK
        · cases h
      · cases h
  · -- a load
    rename_i T x ho
    split at ht
    · rename_i n i hx
      split at ht
      · cases ht
        simp only [tabStep] at h
        split at h
        · rename_i e e' t xss d hO hd
          simp only [Option.bind_eq_some_iff] at h
          obtain ⟨te, hte, h⟩ := h
          cases hb : (Nat.beq te.sz 1 && !(aggOf te)) with
          | false => rw [hb] at h; cases h
          | true =>
            rw [hb] at h
            simp only [Bool.and_eq_true, Bool.not_eq_true'] at hb
            simp only [cond_true, Option.bind_eq_some_iff, bindD] at h
            obtain ⟨xs, h1, h⟩ := h
            exact specLoad_ok hE ho hx hO hd hte (beq_sz hb.1) hb.2 h1 (.inr ⟨rfl, rfl, rfl⟩) h hg hK
        · cases h
      · cases ht
    · -- out of a place
      rename_i hx
      simp only [Option.bind_eq_some_iff, Option.some.injEq] at ht
      obtain ⟨n, _, rfl⟩ := ht
      obtain ⟨d0, rfl, hd0, hu⟩ := undef_tmp hx
      simp only [tabStep] at h
      split at h
      · rename_i e e' t xss d1 i k hO
        simp only [Option.bind_eq_some_iff] at h
        obtain ⟨te, hte, h⟩ := h
        cases hb : (Nat.beq d1 (tabArg o) && scal t && Nat.beq te.sz 1 && !(aggOf te)) with
        | false => rw [hb] at h; cases h
        | true =>
          rw [hb] at h
          simp only [Bool.and_eq_true, Bool.not_eq_true'] at hb
          obtain ⟨⟨⟨b1, b2⟩, b3⟩, b4⟩ := hb
          have hda : tabArg o = d0 := by unfold tabArg; rw [ho]; rfl
          rw [hda] at b1
          obtain rfl := Nat.eq_of_beq_eq_true b1
          simp only [cond_true, Option.bind_eq_some_iff, bindD] at h
          obtain ⟨xs, hxs, x, hxx, h⟩ := h
          obtain ⟨σ', k0, k1, k2, k3⟩ := putK_some h
          obtain ⟨S, β, Om, hc, hs, hvw, hlo, hsz, hdf⟩ := hg
          obtain ⟨h0, hh, q, g1, hq, hrel⟩ := hlo n _ _ _ _ _ _ _ _ hO rfl
          obtain ⟨hqb, hqO⟩ := hidRow hvw hO rfl g1 hq hxs
          obtain ⟨l1, l2, l3, l4, l5⟩ := scal_leaves b2 x x
          have hop : opC c I ((d1, .one (.eref q k 0)) :: s.σ) (fun k => if k = q then Om q else none) [q] (o.dst.getD noSlot) o two = some (.one (.v t x), []) := by
            have hg1 : gv c ((d1, .one (.eref q k 0)) :: s.σ) (.tmp d1) 0 = some (.one (.eref q k 0)) := by
              have : Nat.blt d1 rootBase = true := Nat.ble_eq_true_of_le hd0
              simp [gv, this, lkp_cons]
            simp only [opC, ho, hte, Option.bind_some, hg1, one?, loadOp, if_true, hqO, bindD, hxx, l1, beq_sz b3, l2, valOf, b4, cond_false]
            rfl
          obtain ⟨c1, c2⟩ := lk_one (Om := Om) (q := q)
          refine opC_sound hE hI hc (hs.hid hd0 hrel) c1 c2 hop (fun _ _ hm => by cases hm) ?_
          intro S' β' w' v hc' le hv
          exact hK _ _ _ (tab_pure (s1 := .atO d1 i k) (s2 := .own) rfl rfl hO hs hvw hlo hsz hdf hc' le k0 k1 k2 hv (fun _ _ _ hh => by cases hh)) k3
      · cases h
    · cases ht
  · -- a place
    rename_i T x y ho
    split at ht
    · rename_i hx
      simp only [Option.bind_eq_some_iff, Option.some.injEq] at ht
      obtain ⟨n, _, rfl⟩ := ht
      obtain ⟨d0, rfl, hd0, hu⟩ := undef_tmp hx
      simp only [tabStep] at h
      split at h
      · rename_i e e' t xss d1 i d hO hd
        cases hb : (Nat.beq d1 (tabArg o) && eltOk c T t) with
        | false => rw [hb] at h; cases h
        | true =>
          rw [hb] at h
          simp only [Bool.and_eq_true] at hb
          obtain ⟨b1, b2⟩ := hb
          have hda : tabArg o = d0 := by unfold tabArg; rw [ho]; rfl
          rw [hda] at b1
          obtain rfl := Nat.eq_of_beq_eq_true b1
          simp only [cond_true, Option.bind_eq_some_iff, bindD] at h
          obtain ⟨b, hbb, k, hk, xs, hxs, x, hxx, h⟩ := h
          obtain ⟨σ', k0, k1, k2, k3⟩ := putK_some h
          obtain ⟨S, β, Om, hc, hs, hvw, hlo, hsz, hdf⟩ := hg
          obtain ⟨h0, hh, q, g1, hq, hrel⟩ := hlo n _ _ _ _ _ _ _ _ hO rfl
          obtain ⟨hqb, hqO⟩ := hidRow hvw hO rfl g1 hq hxs
          have hop : opC c I ((d1, .one (.row q)) :: s.σ) (fun k => if k = q then Om q else none) [q] (o.dst.getD noSlot) o two = some (.one (.eref q k 0), []) := by
            have hg1 : gv c ((d1, .one (.row q)) :: s.σ) (.tmp d1) 0 = some (.one (.row q)) := by
              have : Nat.blt d1 rootBase = true := Nat.ble_eq_true_of_le hd0
              simp [gv, this, lkp_cons]
            have hg2 : gv c ((d1, .one (.row q)) :: s.σ) y 0 = some b := gv_ext hu hbb (by rintro rfl; cases hk)
            simp only [opC, ho, Option.bind_some, hg1, hg2, one?, hk, indexAddrOp, if_true, hqO, b2, cond_true, bindD, hxx]
            rfl
          obtain ⟨c1, c2⟩ := lk_one (Om := Om) (q := q)
          refine opC_sound hE hI hc (hs.hid hd0 hrel) c1 c2 hop (fun _ _ hm => by cases hm) ?_
          intro S' β' w' v hc' le hv
          refine hK _ _ _ (tab_pure (s1 := .lentO d1 i) (s2 := .atO d i k) rfl rfl hO hs hvw hlo hsz hdf hc' le k0 k1 k2 (.inl rfl) (fun d2 i2 jo2 hh2 => ?_)) k3
          cases hh2
          refine ⟨h0, hh, q, g1, hq, ?_⟩
          have : (a.put o.dst v).tmps.getD d undef = v := by
            rw [hd]
            have := k1 d hd
            simp [Act.put, hsz, this]
          rw [this]; exact hv.resolve_left (by simp)
      · cases h
    · cases ht
  · -- a store
    rename_i T x y ho
    split at ht
    · rename_i n i hx
      split at ht
      · cases ht
        simp only [tabStep] at h
        split at h
        · rename_i e e' t xss m hO hy
          split at h
          · rename_i e2 t2 xs2 hm
            simp only [Option.bind_eq_some_iff] at h
            obtain ⟨te, hte, h⟩ := h
            cases hb : (Nat.beq te.sz 1 && Nat.beq e2 e' && !(Nat.beq m n) && o.dst.isNone) with
            | false => rw [hb] at h; cases h
            | true =>
              rw [hb] at h
              simp only [Bool.and_eq_true, Bool.not_eq_true', Option.isNone_iff_eq_none] at hb
              obtain ⟨⟨⟨h1, h2⟩, h3⟩, h4⟩ := hb
              obtain rfl := beq_sz h2
              simp only [cond_true, Option.bind_eq_some_iff, bindD] at h
              obtain ⟨zs, h5, xs, h6, h⟩ := h
              refine specStore_ok hE ho h4 (.inr ⟨rfl, rfl, rfl⟩) hx hO hy hm hte (beq_sz h1) ?_ h5 h hg hK
              rintro rfl
              rw [Nat.beq_refl] at h3; cases h3
          · cases h
        · cases h
      · cases ht
    · -- into a place
      rename_i hx
      simp only [Option.bind_eq_some_iff, Option.some.injEq] at ht
      obtain ⟨n, _, rfl⟩ := ht
      obtain ⟨d0, rfl, hd0, hu⟩ := undef_tmp hx
      simp only [tabStep] at h
      split at h
      · rename_i e e' t xss d1 i k t2 x hO hy
        simp only [Option.bind_eq_some_iff] at h
        obtain ⟨te, hte, h⟩ := h
        cases hb : (Nat.beq d1 (tabArg o) && scal t && Nat.beq te.sz 1 && o.dst.isNone) with
        | false => rw [hb] at h; cases h
        | true =>
          rw [hb] at h
          simp only [Bool.and_eq_true, Option.isNone_iff_eq_none] at hb
          obtain ⟨⟨⟨b1, b2⟩, b3⟩, b4⟩ := hb
          have hda : tabArg o = d0 := by unfold tabArg; rw [ho]; rfl
          rw [hda] at b1
          obtain rfl := Nat.eq_of_beq_eq_true b1
          simp only [cond_true, Option.bind_eq_some_iff, bindD] at h
          obtain ⟨z, hz, xs, hxs, x0, hxx, h⟩ := h
          obtain ⟨e1, e2⟩ := castV_eq hz
          subst e1
          have e2 : x = z := e2
          subst e2
          obtain ⟨S, β, Om, hc, hs, hvw, hlo, hsz, hdf⟩ := hg
          obtain ⟨h0, hh, q, g1, hq, hrel⟩ := hlo n _ _ _ _ _ _ _ _ hO rfl
          obtain ⟨hqb, hqO⟩ := hidRow hvw hO rfl g1 hq hxs
          obtain ⟨l1, l2, l3, l4, l5⟩ := scal_leaves b2 x x0
          obtain ⟨m1, _, _, _, _⟩ := scal_leaves b2 x0 x0
          have hop : opC c I ((d1, .one (.eref q k 0)) :: s.σ) (fun k => if k = q then Om q else none) [q] (o.dst.getD noSlot) o two = some (.one .undef, [(q, .row e' t2 (setRow xs k x) false)]) := by
            have hg1 : gv c ((d1, .one (.eref q k 0)) :: s.σ) (.tmp d1) 0 = some (.one (.eref q k 0)) := by
              have : Nat.blt d1 rootBase = true := Nat.ble_eq_true_of_le hd0
              simp [gv, this, lkp_cons]
            have hg2 : gv c ((d1, .one (.eref q k 0)) :: s.σ) y T = some (.one (.v t2 x)) := gv_ext hu hy (by simp)
            have hsz1 : (Lf.v t2 x).size = 1 := l5
            simp only [opC, ho, hte, Option.bind_some, hg1, hg2, one?, storeOp, if_true, hqO, bindD, hxx, AV.leafs?, Lf.namesL, Lf.names, List.append_nil, resolveL, resolve, List.map_cons, List.map_nil, List.sum_cons, List.sum_nil, hsz1, Nat.add_zero, b3, memB, Bool.not_false, Bool.and_self, cond_true, m1, beq_sz b3, l3, l4, freezes]
            rfl
          obtain ⟨c1, c2⟩ := lk_one (Om := Om) (q := q)
          have hnb := hvw.small _ _ hO
          refine opC_sound hE hI hc (hs.hid hd0 hrel) c1 c2 hop (fun m o' hm h7 h8 => ?_) ?_
          · simp only [List.mem_cons, List.not_mem_nil, or_false, Prod.mk.injEq] at hm
            obtain ⟨rfl, _⟩ := hm
            rw [b4] at h7
            have h9 : m / 8 = 1048576 := h7
            have : bigName = 4611686018427387904 := rfl
            omega
          intro S' β' w' v hc' le hv
          rw [over_cons, over_nil] at hc' le
          have hput : a.put o.dst v = a := by rw [b4]; rfl
          rw [hput]
          obtain ⟨hh', g1', g2, g3, g4⟩ := hvw.rows n _ _ _ _ _ hO
          rw [g1] at g1'; cases g1'
          obtain ⟨hi0, hil, hin⟩ := ixAt_some hxs
          have hlr : ∀ m e2 hs2, upd Om q (some (.row e' t2 (setRow xs k x) false)) m = some (.lrow e2 hs2) → Om m = some (.lrow e2 hs2) := by
            intro m e2 hs2 hm
            by_cases e3 : m = q
            · subst e3; rw [upd_same] at hm; cases hm
            · rw [upd_ne _ _ _ _ e3] at hm; exact hm
          have hlr2 : ∀ m e2 hs2, Om m = some (.lrow e2 hs2) → upd Om q (some (.row e' t2 (setRow xs k x) false)) m = some (.lrow e2 hs2) := by
            intro m e2 hs2 hm
            rw [upd_ne _ _ _ _ (by rintro rfl; rw [hqO] at hm; cases hm)]; exact hm
          refine hK ⟨s.σ, (n, .rows e e' t2 (setRow xss i (setRow xs k x)) .own) :: s.O⟩ a w' ⟨S', β', _, hc', hs.le le, ?_, ?_, hsz, hdf⟩ h
          · show View (lkp ((n, _) :: s.O)) _
            rw [lkp_upd]
            refine ⟨?_, ?_, ?_, ?_, ?_, ?_, ?_⟩
            · intro m o2 hm
              by_cases e3 : m = n
              · subst e3; exact hnb
              · rw [upd_ne _ _ _ _ e3] at hm; exact hvw.small m o2 hm
            · intro m hmb hpl
              by_cases e3 : m = n
              · subst e3; rw [upd_same] at hpl; cases hpl
              · rw [upd_ne _ _ _ _ e3] at hpl ⊢
                rw [upd_ne _ _ _ _ (by omega)]; exact hvw.plain m hmb hpl
            · intro m e2 e2' t3 xss3 s3 hm
              by_cases e3 : m = n
              · subst e3; rw [upd_same] at hm; cases hm
                refine ⟨hh, hlr2 _ _ _ g1, by simp [setRow, g2], g3, fun j q' xs' hq' hx' => ?_⟩
                unfold setRow at hx'
                rw [List.getElem?_set] at hx'
                by_cases e4 : i.toNat = j
                · subst e4
                  rw [hq] at hq'; cases hq'
                  rw [if_pos rfl] at hx'
                  split at hx'
                  · cases hx'
                    exact ⟨hqb, fun _ => upd_same _ _ _⟩
                  · cases hx'
                · rw [if_neg e4] at hx'
                  obtain ⟨g5, g6⟩ := g4 j q' xs' hq' hx'
                  have hne : q' ≠ q := by
                    rintro rfl
                    exact e4 ((List.getElem?_inj (List.getElem?_eq_some_iff.1 hq).1 g3).1 (hq.trans hq'.symm))
                  exact ⟨g5, fun _ => by rw [upd_ne _ _ _ _ hne]; exact g6 (by intro hh; cases hh)⟩
              · rw [upd_ne _ _ _ _ e3] at hm
                obtain ⟨hs2, f1, f2, f3, f4⟩ := hvw.rows m _ _ _ _ _ hm
                refine ⟨hs2, hlr2 _ _ _ f1, f2, f3, fun j q' xs' hq' hx' => ?_⟩
                obtain ⟨g5, g6⟩ := f4 j q' xs' hq' hx'
                have hne : q' ≠ q := by
                  rintro rfl
                  exact hvw.apart m n _ _ _ _ f1 g1 e3 q' (List.mem_of_getElem? hq') (List.mem_of_getElem? hq)
                exact ⟨g5, fun hne2 => by rw [upd_ne _ _ _ _ hne]; exact g6 hne2⟩
            · intro m e2 hs2 hm
              by_cases e3 : m = n
              · subst e3; rw [upd_same] at hm; cases hm
              · rw [upd_ne _ _ _ _ e3] at hm; exact hvw.lrow m _ _ hm
            · intro m m' a1 a2 a3 a4 f1 f2 hne
              exact hvw.apart m m' _ _ _ _ (hlr _ _ _ f1) (hlr _ _ _ f2) hne
            · obtain ⟨B, hB, hB2⟩ := hvw.bound
              have hqB : q < B := hB2 _ _ _ g1 q (List.mem_of_getElem? hq)
              exact ⟨B, fun m hm => by rw [upd_ne _ _ _ _ (by omega)]; exact hB m hm, fun m e2 hs2 hm => hB2 m _ _ (hlr _ _ _ hm)⟩
            · intro m e2 hs2 hm
              exact hvw.hid m _ _ (hlr _ _ _ hm)
          · intro m e3 e3' t3 xss3 s3 d3 i3 jo3 hm hl3
            have hm : lkp ((n, AObj.rows e e' t2 (setRow xss i (setRow xs k x)) .own) :: s.O) m = _ := hm
            rw [lkp_upd] at hm
            by_cases e4 : m = n
            · subst e4; rw [upd_same] at hm; cases hm; cases hl3
            · rw [upd_ne _ _ _ _ e4] at hm
              obtain ⟨f0, hs3, q3, f1, f2, f3⟩ := hlo m _ _ _ _ _ _ _ _ hm hl3
              exact ⟨f0, hs3, q3, hlr2 _ _ _ f1, f2, RelL_le le _ f3⟩
      · cases h
    · cases ht
  · cases ht

theorem specOp_ok (hE : EnvOk P c) (hI : Snd P c I) (h : specOp c I nt s o K = some r) (hg : GoodR F nt s a w) (hK : ∀ s' a' w', GoodR F nt s' a' w' → K s' = some r → Kn a' w') : o.wp P a w Kn Q := by
  unfold specOp at h
  split at h
  · rename_i k hk; exact tabStep_ok hE hI hk h hg hK
  · exact specOp0_ok hE hI h hg hK

theorem skipK_ok {F : Fr} {Kn : Act → World → Prop} (h : skipK nt s o K = some r) (hg : GoodR F nt s a w) (hK : ∀ s' a' w', GoodR F nt s' a' w' → K s' = some r → Kn a' w') : Kn (a.put o.dst (.tuple #[])) w := by
  obtain ⟨S, β, Om, hc, hs, hvw, hlo, hsz, hdf⟩ := hg
  unfold skipK at h
  cases hfr : freeSlot s.O o.dst with
  | false => rw [hfr] at h; cases h
  | true =>
    rw [hfr] at h; simp only [cond_true] at h
    split at h
    · rename_i σ' hσ
      obtain ⟨g1, g2⟩ := putS_some hσ
      refine hK ⟨σ', s.O⟩ _ _ ⟨S, β, Om, hc, ?_, hvw, hlo.go (le_refl _) (free_spec hfr) (fun _ _ _ h => h), by rw [size_put, hsz], by rw [defers_put, hdf]⟩ h
      show Slots _ (lkp σ') _
      rw [g2]
      exact hs.put (fun e he => by rw [hsz]; exact g1 e he) ⟨#[], rfl, rfl⟩
    · cases h

theorem spec_ok (hE : EnvOk P c) (hI : Snd P c I) {Kx : St → Option ρ} (hQ : ∀ s' a' w', Good F nt s' a' w' → Kx s' = some r → Q .normal a' w') : ∀ (l : List Oper) (k : Nat) (s : St) (a : Act) (w : World), (∀ j, l[j]? = ops[k + j]?) → evalSpec c I nt ops l s Kx = some r → GoodR F nt s a w →
    wpOps P ops Q (List.range' k l.length) a w
  | [], k, s, a, w, _, h, hg => by
    unfold evalSpec at h
    cases hn : noHole s.O with
    | false => rw [hn] at h; cases h
    | true =>
      rw [hn] at h
      exact hQ _ _ _ (hg.full hn) h
  | o :: l, k, s, a, w, hl, h, hg => by
    unfold evalSpec at h
    rw [List.length_cons, List.range'_succ, wpOps_cons]
    have h0 : ops[k]? = some o := by simpa using (hl 0).symm
    unfold wpOp
    simp only [h0]
    have hnext : ∀ s' a' w', GoodR F nt s' a' w' → evalSpec c I nt ops l s' Kx = some r → wpOps P ops Q (List.range' (k + 1) l.length) a' w' := fun s' a' w' hg' hk =>
      spec_ok hE hI hQ l (k + 1) s' a' w' (fun j => by have := hl (j + 1); simpa [Nat.add_assoc, Nat.add_comm 1 j] using this) hk hg'
    split at h
    · rename_i hgd
      have hw : Region.wanted o (yielded ops a.tmps) = true := by unfold Region.wanted; rw [hgd]
      rw [if_pos hw]
      left
      exact specOp_ok hE hI h hg hnext
    · rename_i j want hgd
      have hgR : ∀ dj v, lkp s.σ dj = some v → GoodR F nt ⟨(dj, v) :: s.σ, s.O⟩ a w := by
        intro dj v hv
        obtain ⟨S, β, Om, hc, hs, hvw, hlo, hsz, hdf⟩ := hg
        refine ⟨S, β, Om, hc, ?_, hvw, hlo, hsz, hdf⟩
        have : lkp ((dj, v) :: s.σ) = lkp s.σ := by
          funext t
          rw [lkp_cons]; split
          · rename_i e; subst e; exact hv.symm
          · rfl
        show Slots _ (lkp ((dj, v) :: s.σ)) _
        rw [this]; exact hs
      obtain ⟨S, β, Om, hc, hs, _⟩ := id hg
      split at h
      · rename_i dj g hq
        simp only [Option.bind_eq_some_iff, Option.some.injEq, Prod.mk.injEq] at hq
        obtain ⟨dj', hd, a1, ha0, rfl, rfl⟩ := hq
        obtain ⟨hdr, ha⟩ := blt_lkp ha0
        have hwant : Region.wanted o (yielded ops a.tmps) = (g == want) := by
          unfold Region.wanted
          rw [hgd]
          simp only [yielded_of hs hdr (Option.bind_eq_some_iff.2 hd) ha]
          cases g <;> cases want <;> rfl
        have key : (bif (g == want) then specOp c I nt ⟨(dj', .one (.v .bool g)) :: s.σ, s.O⟩ o fun st' => evalSpec c I nt ops l st' Kx
          else skipK nt ⟨(dj', .one (.v .bool g)) :: s.σ, s.O⟩ o fun st' => evalSpec c I nt ops l st' Kx) = some r := by
          cases g <;> exact h
        rw [hwant]
        cases hgw : (g == want) with
        | true =>
          rw [hgw] at key
          simp only [cond_true] at key
          rw [if_pos rfl]
          left
          exact specOp_ok hE hI key (hgR _ _ ha) hnext
        | false =>
          rw [hgw] at key
          simp only [cond_false] at key
          simp only [Bool.false_eq_true, if_false]
          exact skipK_ok key (hgR _ _ ha) hnext
      · rename_i dj hq
        simp only [Option.bind_eq_some_iff, Option.some.injEq, Prod.mk.injEq] at hq
        obtain ⟨dj', hd, a1, ha0, rfl, rfl⟩ := hq
        obtain ⟨hdr, ha⟩ := blt_lkp ha0
        have hwant : Region.wanted o (yielded ops a.tmps) = false := by
          unfold Region.wanted
          rw [hgd]
          simp only [yielded_tup hs hdr (Option.bind_eq_some_iff.2 hd) ha]
          rfl
        rw [hwant]
        simp only [Bool.false_eq_true, if_false]
        exact skipK_ok h hg hnext
      · cases h
end
end Go.Proofs.R

