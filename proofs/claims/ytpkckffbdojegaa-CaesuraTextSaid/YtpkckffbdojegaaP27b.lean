/- Plain words for the chapter of breaks: Breaks. -/
import Derived.Test.YtpkckffbdojegaaP27a
set_option linter.unusedVariables false
set_option linter.unusedSimpArgs false
namespace Go.Proofs.C27
open Go Go.Proofs.R
set_option linter.unusedVariables false
set_option maxRecDepth 100000
abbrev Part := ByteArray × (Int × Int)
abbrev Mark := ByteArray × (Int × Bool)
abbrev Brk := Int × (Int × (Int × (Int × List ByteArray)))

/-! the parts divide -/
def dvd (n : Int) : Int → List Part → Bool
  | at_, [] => at_ == n
  | at_, p :: l => bif p.2.1 != at_ then false else bif decide (p.2.2 < p.2.1) then false else dvd n p.2.2 l
theorem divide_l3 (n : Int) : ∀ (suf pre : List Part) (a : Int), (pre ++ suf).length < 1000000 →
    caesura_divide.l3 n a (pre ++ suf) ((pre ++ suf).length : Nat) (pre.length : Nat) = some (dvd n a suf, ())
  | [], pre, a, h => by rw [caesura_divide.l3_eq, ifB_not _ _ (lt_end pre)]; rfl
  | x :: suf, pre, a, h => by
    rw [caesura_divide.l3_eq, ifB_of _ _ (lt_at pre x suf), ixAt_at, bindD_some, w_at (p := pre) (x := x) (s := suf) (by omega), app_at pre x suf, divide_l3 n suf (pre ++ [x]) x.2.2 (by rw [← app_at]; exact h)]
    simp only [dvd]
    cases (x.2.1 != a) <;> cases decide (x.2.2 < x.2.1) <;> rfl
theorem divide_f {l : List Part} (n : Int) (h : l.length < 1000000) : caesura_divide.f l n = some (dvd n 0 l, ()) := by
  rw [caesura_divide.f_eq]
  exact divide_l3 n l [] 0 (by simpa using h)
theorem dvd_le {n : Int} : ∀ {l : List Part} {a : Int}, dvd n a l = true → a ≤ n
  | [], a, h => by simp [dvd] at h; omega
  | p :: l, a, h => by
    simp only [dvd] at h
    cases h1 : (p.2.1 != a) with
    | true => rw [h1] at h; cases h
    | false =>
      cases h2 : decide (p.2.2 < p.2.1) with
      | true => rw [h1, h2] at h; cases h
      | false =>
        rw [h1, h2] at h
        have := dvd_le (l := l) h
        have := of_decide_eq_false h2
        have : p.2.1 = a := by simpa using h1
        omega
theorem refdivide_l3 (n : Int) : ∀ (suf pre : List Part) (a : Int), (pre ++ suf).length < 1000000 →
    ancepsref26_Divide.l3 (pre ++ suf) n a (pre.length : Nat) = some (dvd n a suf, ())
  | [], pre, a, h => by rw [ancepsref26_Divide.l3_eq, ifB_not _ _ (lt_end pre)]; rfl
  | x :: suf, pre, a, h => by
    rw [ancepsref26_Divide.l3_eq, ifB_of _ _ (lt_at pre x suf), ixAt_at]
    simp only [bindD_some]
    rw [w_at (p := pre) (x := x) (s := suf) (by omega), app_at pre x suf, refdivide_l3 n suf (pre ++ [x]) x.2.2 (by rw [← app_at]; exact h)]
    simp only [dvd]
    cases h1 : (x.2.1 != a) with
    | true => rfl
    | false =>
      have h1' : x.2.1 = a := by simpa using h1
      rw [h1']
      cases h2 : decide (x.2.2 < a) with
      | true => rfl
      | false =>
        cases h3 : decide (x.2.2 > n) with
        | false => rfl
        | true =>
          have h3' := of_decide_eq_true h3
          cases h4 : dvd n x.2.2 suf with
          | false => rfl
          | true => have := dvd_le h4; omega
theorem refdivide_f {l : List Part} (n : Int) (h : l.length < 1000000) : ancepsref26_Divide.f l n = some (dvd n 0 l, ()) := by
  rw [ancepsref26_Divide.f_eq]
  exact refdivide_l3 n l [] 0 (by simpa using h)

/-! the part of a place -/
def mt (pl : Int) (x : Part) : Bool := decide (x.2.1 < pl) && decide (x.2.2 ≥ pl)
theorem mt_f (x : Part) (pl : Int) : caesura_Breaks_1.f x.1 x.2.1 x.2.2 pl = some (mt pl x, ()) := by
  rw [caesura_Breaks_1.f_eq]; unfold mt
  cases decide (x.2.1 < pl) <;> rfl
theorem mt_none {n : Int} : ∀ {l : List Part} {a : Int} {pl : Int}, dvd n a l = true → pl ≤ a → ∀ x ∈ l, mt pl x = false
  | [], a, pl, h, hp, x, hx => by cases hx
  | p :: l, a, pl, h, hp, x, hx => by
    simp only [dvd] at h
    cases h1 : (p.2.1 != a) with
    | true => rw [h1] at h; cases h
    | false =>
      cases h2 : decide (p.2.2 < p.2.1) with
      | true => rw [h1, h2] at h; cases h
      | false =>
        rw [h1, h2] at h
        have h2' := of_decide_eq_false h2
        have h1' : p.2.1 = a := by simpa using h1
        rcases List.mem_cons.1 hx with rfl | hx
        · unfold mt; rw [decide_eq_false (by omega)]; rfl
        · exact mt_none (l := l) h (by omega) x hx
theorem mt_one {n : Int} : ∀ {l : List Part} {a : Int} {pl : Int}, dvd n a l = true → a < pl → pl ≤ n →
    ∃ p x s, l = p ++ x :: s ∧ (∀ y ∈ p, mt pl y = false) ∧ mt pl x = true ∧ (∀ y ∈ s, mt pl y = false)
  | [], a, pl, h, h0, hp => by simp [dvd] at h; omega
  | q :: l, a, pl, h, h0, hp => by
    simp only [dvd] at h
    cases h1 : (q.2.1 != a) with
    | true => rw [h1] at h; cases h
    | false =>
      cases h2 : decide (q.2.2 < q.2.1) with
      | true => rw [h1, h2] at h; cases h
      | false =>
        rw [h1, h2] at h
        have h2' := of_decide_eq_false h2
        have h1' : q.2.1 = a := by simpa using h1
        by_cases hq : pl ≤ q.2.2
        · refine ⟨[], q, l, rfl, by simp, ?_, mt_none h hq⟩
          unfold mt; rw [decide_eq_true (by omega), decide_eq_true (by omega)]; rfl
        · obtain ⟨p, x, s, e, i1, i2, i3⟩ := mt_one (l := l) h (by omega) hp
          refine ⟨q :: p, x, s, by rw [e]; rfl, ?_, i2, i3⟩
          intro y hy
          rcases List.mem_cons.1 hy with rfl | hy
          · unfold mt; rw [decide_eq_false (p := y.2.2 ≥ pl) (by omega), Bool.and_false]
          · exact i1 y hy
theorem part_l2 (pl : Int) (x : Part) (s : List Part) (hx : mt pl x = true) : ∀ (p pre : List Part), (pre ++ (p ++ x :: s)).length < 1000000 → (∀ y ∈ p, mt pl y = false) →
    api_Part.l2 (pre ++ (p ++ x :: s)) pl ((pre ++ (p ++ x :: s)).length : Nat) (pre.length : Nat) = some (((pre.length + p.length : Nat) : Int), ())
  | [], pre, h, hp => by
    rw [api_Part.l2_eq, List.nil_append, ifB_of _ _ (lt_at pre x s), ixAt_at, bindD_some, mt_f, hx]; rfl
  | y :: p, pre, h, hp => by
    rw [api_Part.l2_eq, List.cons_append, ifB_of _ _ (lt_at pre y _), ixAt_at, bindD_some, mt_f, hp y (by simp), w_at (p := pre) (x := y) (s := p ++ x :: s) (by simp only [List.length_append, List.length_cons] at h ⊢; omega), bindD_some, ifB_false, app_at pre y,
      part_l2 pl x s hx p (pre ++ [y]) (by rw [← app_at]; exact h) (fun z hz => hp z (by simp [hz]))]
    simp only [List.length_append, List.length_cons, List.length_nil]
    congr 2; omega
theorem part_f {l : List Part} {pl n : Int} (hl : l.length < 1000) (hd : dvd n 0 l = true) (h0 : 0 < pl) (hn : pl ≤ n) :
    ∃ p x s, l = p ++ x :: s ∧ (∀ y ∈ p, mt pl y = false) ∧ mt pl x = true ∧ (∀ y ∈ s, mt pl y = false) ∧ api_Part.f l pl = some (((p.length : Nat) : Int), ()) := by
  obtain ⟨p, x, s, e, h1, h2, h3⟩ := mt_one hd h0 hn
  refine ⟨p, x, s, e, h1, h2, h3, ?_⟩
  subst e
  rw [api_Part.f_eq]
  have := part_l2 pl x s h2 p [] (by simp only [List.nil_append]; omega) h1
  simpa using this

/-! the break of a place -/
def lst (pl : Int) : List Part → Nat → Int × Int × Int → Int × Int × Int
  | [], _, s => s
  | x :: l, i, s => lst pl l (i + 1) (bif mt pl x then ((i : Int), IntKind.i64.wrap (pl - x.2.1), bif x.2.2 == pl then 2 else s.2.2) else s)
theorem lst_no (pl : Int) : ∀ (l : List Part) (i : Nat) (s : Int × Int × Int), (∀ y ∈ l, mt pl y = false) → lst pl l i s = s
  | [], i, s, h => rfl
  | x :: l, i, s, h => by
    simp only [lst]; rw [h x (by simp), cond_false]
    exact lst_no pl l (i + 1) s fun y hy => h y (by simp [hy])
theorem lst_one (pl : Int) (x : Part) (s : List Part) (hx : mt pl x = true) (hs : ∀ y ∈ s, mt pl y = false) : ∀ (p : List Part) (i : Nat) (st : Int × Int × Int), (∀ y ∈ p, mt pl y = false) →
    lst pl (p ++ x :: s) i st = (((i + p.length : Nat) : Int), IntKind.i64.wrap (pl - x.2.1), bif x.2.2 == pl then 2 else st.2.2)
  | [], i, st, h => by simp only [List.nil_append, lst, hx, cond_true, lst_no pl s (i + 1) _ hs]; rfl
  | y :: p, i, st, h => by
    simp only [List.cons_append, lst]; rw [h y (by simp), cond_false, lst_one pl x s hx hs p (i + 1) st fun z hz => h z (by simp [hz])]
    simp only [List.length_cons]
    congr 2; omega
def mk (pl : Int) (l : List Mark) : List ByteArray := (l.filter fun m => m.2.1 == pl).map (·.1)
theorem mk_len (pl : Int) (l : List Mark) : (mk pl l).length ≤ l.length := by unfold mk; rw [List.length_map]; exact List.length_filter_le _ _
theorem mk_cons (pl : Int) (m : Mark) (l : List Mark) : mk pl (m :: l) = (bif m.2.1 == pl then [m.1] else []) ++ mk pl l := by
  unfold mk; rw [List.filter_cons]; cases (m.2.1 == pl) <;> rfl
theorem at_l12 (pl : Int) (p2 : List Part) (p3 : List Int) (a5 a6 a7 a8 a9 : Int) (a10 a11 a12 : Int) (a13 : List ByteArray) : ∀ (suf pre : List Mark) (out : List ByteArray), (pre ++ suf).length < 1000000 → out.length ≤ pre.length →
    ancepsref27_at.l12 pl (pre.length : Nat) p2 p3 (pre ++ suf) a5 a6 a7 a8 a9 a10 a11 a12 a13 out = some (a9, (a10, (a11, (a12, (out ++ mk pl suf, ())))))
  | [], pre, out, h, ho => by rw [ancepsref27_at.l12_eq, ifB_not _ _ (lt_end pre)]; simp [mk]
  | m :: suf, pre, out, h, ho => by
    have hp : pre.length < 1000000 := by simp only [List.length_append, List.length_cons] at h; omega
    have h' : (pre ++ [m] ++ suf).length < 1000000 := by rw [← app_at]; exact h
    rw [ancepsref27_at.l12_eq, ifB_of _ _ (lt_at pre m suf), ixAt_at, bindD_some, bindD_some, grow_one out (by omega), bindD_some, w_at (p := pre) (x := m) (s := suf) (by omega), app_at pre m suf,
      at_l12 pl p2 p3 a5 a6 a7 a8 a9 a10 a11 a12 a13 suf (pre ++ [m]) (out ++ [m.1]) h' (by simp; omega), at_l12 pl p2 p3 a5 a6 a7 a8 a9 a10 a11 a12 a13 suf (pre ++ [m]) out h' (by simp; omega), mk_cons]
    cases (m.2.1 == pl) <;> simp [ifB]
theorem at_l3 (pl : Int) (p3 : List Int) (p4 : List Mark) (a5 a6 a7 a8 a9 : Int) (a13 a14 : List ByteArray) : ∀ (suf pre : List Part) (st : Int × Int × Int), (pre ++ suf).length < 1000000 →
    ancepsref27_at.l3 pl (pre.length : Nat) (pre ++ suf) p3 p4 a5 a6 a7 a8 a9 st.1 st.2.1 st.2.2 a13 a14 =
      ancepsref27_at.l12 pl 0 (pre ++ suf) p3 p4 a5 a6 a7 a8 a9 (lst pl suf pre.length st).1 (lst pl suf pre.length st).2.1 (lst pl suf pre.length st).2.2 a13 a14
  | [], pre, st, h => by rw [ancepsref27_at.l3_eq, ifB_not _ _ (lt_end pre)]; rfl
  | x :: suf, pre, st, h => by
    have h' : (pre ++ [x] ++ suf).length < 1000000 := by rw [← app_at]; exact h
    have ih := fun st => at_l3 pl p3 p4 a5 a6 a7 a8 a9 a13 a14 suf (pre ++ [x]) st h'
    have i1 := ih st
    have i2 := ih ((pre.length : Nat), IntKind.i64.wrap (pl - x.2.1), 2)
    have i3 := ih ((pre.length : Nat), IntKind.i64.wrap (pl - x.2.1), st.2.2)
    simp only at i1 i2 i3
    have hl : (pre ++ [x]).length = pre.length + 1 := by simp
    rw [ancepsref27_at.l3_eq, ifB_of _ _ (lt_at pre x suf), ixAt_at, bindD_some, w_at (p := pre) (x := x) (s := suf) (by omega), app_at pre x suf, i1, i2, i3, hl]
    simp only [lst]; unfold mt
    cases decide (x.2.1 < pl) <;> cases decide (x.2.2 ≥ pl) <;> cases (x.2.2 == pl) <;> rfl
def bk (ps : List Part) (ms : List Mark) (pl : Int) : Brk := (pl, ((lst pl ps 0 (0, 0, 1)).1, ((lst pl ps 0 (0, 0, 1)).2.1, ((lst pl ps 0 (0, 0, 1)).2.2, mk pl ms))))
theorem at_f {ps : List Part} (p3 : List Int) {ms : List Mark} (pl : Int) (h : ps.length < 1000000) (h' : ms.length < 1000000) : ancepsref27_at.f ps p3 ms pl = some (pl, (bk ps ms pl).2.1, (bk ps ms pl).2.2.1, (bk ps ms pl).2.2.2.1, mk pl ms, ()) := by
  rw [ancepsref27_at.f_eq]
  have h1 := at_l3 pl p3 ms 0 0 0 0 pl [] [] ps [] (0, 0, 1) (by simpa using h)
  have h2 := at_l12 pl ps p3 0 0 0 0 pl (lst pl ps 0 (0, 0, 1)).1 (lst pl ps 0 (0, 0, 1)).2.1 (lst pl ps 0 (0, 0, 1)).2.2 [] ms [] [] (by simpa using h') (by simp)
  simp only [List.nil_append, List.length_nil] at h1 h2
  exact h1.trans h2

def brks (ps : List Part) (ms : List Mark) : List Int → Nat → List Brk
  | [], _ => []
  | [_], _ => []
  | x :: y :: s, i => (bif decide (x ≥ 2) then [bk ps ms (i : Nat)] else []) ++ brks ps ms (y :: s) (i + 1)
theorem brks_len (ps : List Part) (ms : List Mark) : ∀ (l : List Int) (i : Nat), (brks ps ms l i).length ≤ l.length
  | [], _ => by simp [brks]
  | [_], _ => by simp [brks]
  | x :: y :: s, i => by
    have := brks_len ps ms (y :: s) (i + 1)
    simp only [brks, List.length_append, List.length_cons] at this ⊢
    cases decide (x ≥ 2) <;> simp only [cond_true, cond_false, List.length_cons, List.length_nil] <;> omega
theorem lt_two (p : List Int) (x y : Int) (s : List Int) : decide (((p.length + 1 : Nat) : Int) < ((List.length (p ++ x :: y :: s) : Nat) : Int)) = true := by
  apply decide_eq_true; simp only [List.length_append, List.length_cons]; omega
theorem lt_two' (p : List Int) (s : List Int) (hs : s.length ≤ 1) : decide (((p.length + 1 : Nat) : Int) < ((List.length (p ++ s) : Nat) : Int)) = false := by
  apply decide_eq_false; simp only [List.length_append]; omega
theorem refBreaks_l8 (ps : List Part) (p3 : List Int) (ms : List Mark) (hps : ps.length < 1000000) (hms : ms.length < 1000000) : ∀ (suf pre : List Int) (out : List Brk), (pre ++ suf).length < 100000 → out.length ≤ pre.length →
    ancepsref27_Breaks.l8 (pre ++ suf) ((pre.length + 1 : Nat) : Int) ps p3 ms out = some (out ++ brks ps ms suf (pre.length + 1), (0, ()))
  | [], pre, out, h, ho => by rw [ancepsref27_Breaks.l8_eq, ifB_not _ _ (lt_two' pre [] (by simp))]; simp [brks]
  | [x], pre, out, h, ho => by rw [ancepsref27_Breaks.l8_eq, ifB_not _ _ (lt_two' pre [x] (by simp))]; simp [brks]
  | x :: y :: s, pre, out, h, ho => by
    have hp : pre.length < 100000 := by simp only [List.length_append, List.length_cons] at h; omega
    have h' : (pre ++ [x] ++ y :: s).length < 100000 := by rw [← app_at]; exact h
    have hl : (pre ++ [x]).length + 1 = pre.length + 1 + 1 := by simp
    have i1 := fun o (ho : o.length ≤ (pre ++ [x]).length) => refBreaks_l8 ps p3 ms hps hms (y :: s) (pre ++ [x]) o h' ho
    rw [ancepsref27_Breaks.l8_eq, ifB_of _ _ (lt_two pre x y s), refends_f pre x (y :: s) (by omega), bindD_some, at_f p3 _ hps hms, bindD_some, grow_one out (by omega), bindD_some, w_two (x := x) (by omega), app_at pre x (y :: s)]
    rw [i1 out (by simp; omega)]
    show ifB _ (ancepsref27_Breaks.l8 (pre ++ [x] ++ y :: s) (((pre ++ [x]).length + 1 : Nat) : Int) ps p3 ms (out ++ [bk ps ms ((pre.length + 1 : Nat) : Int)])) _ = _
    rw [i1 _ (by simp; omega), hl]
    simp only [brks]
    cases decide (x ≥ 2) <;> simp [ifB]
theorem Breaks_l16 (p0 : List Int) (ps : List Part) (p5 : List Int) (out : List Brk) (ho : out.length < 100000) (pl a9 a10 a11 a12 : Int) (ms : List Mark) : ∀ (suf pre : List Mark) (nm : List ByteArray), (pre ++ suf).length < 1000000 → nm.length ≤ pre.length →
    caesura_Breaks.l16 p0 (pre ++ suf) ((pre ++ suf).length : Nat) (pre.length : Nat) ps p5 ms out pl a9 a10 a11 a12 nm = caesura_Breaks.l8 p0 ps p5 ms (out ++ [(a9, (a10, (a11, (a12, nm ++ mk pl suf))))]) (IntKind.i64.wrap (pl + 1))
  | [], pre, nm, h, hn => by rw [caesura_Breaks.l16_eq, ifB_not _ _ (lt_end pre), grow_one out (by omega)]; simp [mk, bindD]
  | m :: suf, pre, nm, h, hn => by
    have hp : pre.length < 1000000 := by simp only [List.length_append, List.length_cons] at h; omega
    have h' : (pre ++ [m] ++ suf).length < 1000000 := by rw [← app_at]; exact h
    have ih := fun nm hn => Breaks_l16 p0 ps p5 out ho pl a9 a10 a11 a12 ms suf (pre ++ [m]) nm h' hn
    rw [caesura_Breaks.l16_eq, ifB_of _ _ (lt_at pre m suf), ixAt_at, bindD_some, grow_one nm (by omega), bindD_some, w_at (p := pre) (x := m) (s := suf) (by omega), app_at pre m suf, ih nm (by simp; omega), ih (nm ++ [m.1]) (by simp; omega), mk_cons]
    cases (m.2.1 == pl) <;> simp [ifB]
theorem Breaks_l8 (ps : List Part) (p3 : List Int) (ms : List Mark) (hps : ps.length < 1000) (hms : ms.length < 1000000) : ∀ (suf pre : List Int) (out : List Brk), (pre ++ suf).length < 100000 → dvd ((pre ++ suf).length : Nat) 0 ps = true → out.length ≤ pre.length →
    caesura_Breaks.l8 (pre ++ suf) ps p3 ms out ((pre.length + 1 : Nat) : Int) = some (out ++ brks ps ms suf (pre.length + 1), (0, ()))
  | [], pre, out, h, hd, ho => by rw [caesura_Breaks.l8_eq, ifB_not _ _ (lt_two' pre [] (by simp))]; simp [brks]
  | [x], pre, out, h, hd, ho => by rw [caesura_Breaks.l8_eq, ifB_not _ _ (lt_two' pre [x] (by simp))]; simp [brks]
  | x :: y :: s, pre, out, h, hd, ho => by
    have hp : pre.length < 100000 := by simp only [List.length_append, List.length_cons] at h; omega
    have h' : (pre ++ [x] ++ y :: s).length < 100000 := by rw [← app_at]; exact h
    have hl : (pre ++ [x]).length + 1 = pre.length + 1 + 1 := by simp
    have i1 := fun o (ho : o.length ≤ (pre ++ [x]).length) => Breaks_l8 ps p3 ms hps hms (y :: s) (pre ++ [x]) o h' (by rw [← app_at]; exact hd) ho
    obtain ⟨p, q, r, e, m1, m2, m3, hf⟩ := part_f (pl := ((pre.length + 1 : Nat) : Int)) hps hd (by omega) (by simp only [List.length_append, List.length_cons]; omega)
    have hix : ixAt ps (p.length : Nat) = some q := by rw [e]; exact ixAt_at p q r
    have hlst := lst_one ((pre.length + 1 : Nat) : Int) q r m2 m3 p 0 (0, 0, 1) m1
    rw [← e, Nat.zero_add] at hlst
    have hm := fun a9 a10 a11 a12 => Breaks_l16 (pre ++ x :: y :: s) ps p3 out (by omega) ((pre.length + 1 : Nat) : Int) a9 a10 a11 a12 ms ms [] [] (by simpa using hms) (by simp)
    simp only [List.nil_append, List.length_nil] at hm
    rw [show ((0 : Nat) : Int) = 0 from rfl] at hm
    rw [caesura_Breaks.l8_eq, ifB_of _ _ (lt_two pre x y s), ends_f pre x (y :: s) (by omega), bindD_some, hf]
    simp only [bindD_some, hix, hm]
    rw [w_two (x := x) (by omega)]
    have hb : bk ps ms ((pre.length + 1 : Nat) : Int) = (((pre.length + 1 : Nat) : Int), ((p.length : Nat) : Int), IntKind.i64.wrap (((pre.length + 1 : Nat) : Int) - q.2.1), (bif q.2.2 == ((pre.length + 1 : Nat) : Int) then 2 else 1), mk ((pre.length + 1 : Nat) : Int) ms) := by
      unfold bk; rw [hlst]
    have h1 := i1 out (by simp; omega)
    have h2 := i1 (out ++ [bk ps ms ((pre.length + 1 : Nat) : Int)]) (by simp; omega)
    rw [hb] at h2
    rw [hl] at h1 h2 ⊢
    rw [app_at pre x (y :: s), h1]
    simp only [brks]
    rw [hb]
    cases hq : (q.2.2 == ((pre.length + 1 : Nat) : Int)) with
    | true =>
      rw [hq] at h2; simp only [cond_true] at h2
      rw [ifB_true, h2]
      cases decide (x ≥ 2) <;> simp [ifB]
    | false =>
      rw [hq] at h2; simp only [cond_false] at h2
      rw [ifB_false, h2]
      cases decide (x ≥ 2) <;> simp [ifB]
def BR (xs : List Int) (ps : List Part) (ms : List Mark) : List Brk × Int :=
  bif vl xs != 0 then ([], vl xs) else bif !dvd (xs.length : Nat) 0 ps then ([], 1) else (brks ps ms xs 1, 0)
theorem Breaks_f (xs : List Int) {ps : List Part} (p3 : List Int) {ms : List Mark} (hps : ps.length < 1000) (hms : ms.length < 1000) : caesura_Breaks.f xs ps p3 ms = some ((BR xs ps ms).1, ((BR xs ps ms).2, ())) := by
  rw [caesura_Breaks.f_eq, valid_f, bindD_some, divide_f _ (by omega), bindD_some]; unfold BR
  cases h : (vl xs != 0) with
  | true => rfl
  | false =>
    have h0 : vl xs = 0 := by simpa using h
    cases hd : dvd (xs.length : Nat) 0 ps with
    | false => rfl
    | true =>
      have := Breaks_l8 ps p3 ms hps (by omega) xs [] [] (by have := (vl_zero h0).1; simp only [List.nil_append]; omega) (by simpa using hd) (by simp)
      simp only [List.nil_append, List.length_nil, Nat.zero_add] at this
      exact this
theorem refBreaks_f (xs : List Int) {ps : List Part} (p3 : List Int) {ms : List Mark} (hps : ps.length < 1000) (hms : ms.length < 1000) : ancepsref27_Breaks.f xs ps p3 ms = some ((BR xs ps ms).1, ((BR xs ps ms).2, ())) := by
  rw [ancepsref27_Breaks.f_eq, letters_f, bindD_some, refdivide_f _ (by omega), bindD_some]; unfold BR
  cases h : (vl xs != 0) with
  | true => rfl
  | false =>
    have h0 : vl xs = 0 := by simpa using h
    cases hd : dvd (xs.length : Nat) 0 ps with
    | false => rfl
    | true =>
      have := refBreaks_l8 ps p3 ms (by omega) (by omega) xs [] [] (by have := (vl_zero h0).1; simp only [List.nil_append]; omega) (by simp)
      simp only [List.nil_append, List.length_nil, Nat.zero_add] at this
      exact this

/-! the same lists -/
theorem strings_l4 : ∀ (suf pre : List ByteArray), (pre ++ suf).length < 1000000 → ancepsref22_Strings.l4 (pre ++ suf) (pre ++ suf) (pre.length : Nat) = some (true, ())
  | [], pre, h => by rw [ancepsref22_Strings.l4_eq, ifB_not _ _ (lt_end pre)]
  | x :: suf, pre, h => by
    rw [ancepsref22_Strings.l4_eq, ifB_of _ _ (lt_at pre x suf), ixAt_at, bindD_some, bindD_some, ifB_not _ _ (by simp), w_at (p := pre) (x := x) (s := suf) (by omega), app_at pre x suf, strings_l4 suf (pre ++ [x]) (by rw [← app_at]; exact h)]
theorem strings_f {l : List ByteArray} (h : l.length < 1000000) : ancepsref22_Strings.f l l = some (true, ()) := by
  rw [ancepsref22_Strings.f_eq, ifB_not _ _ (by simp)]
  exact strings_l4 l [] (by simpa using h)
theorem sameBreak_f {a b c d : Int} {l : List ByteArray} (h : l.length < 1000000) : ancepsref27_SameBreak.f a b c d l a b c d l = some (true, ()) := by
  rw [ancepsref27_SameBreak.f_eq, strings_f h]; simp [ifB, bindD]
theorem same_l4 : ∀ (suf pre : List Brk), (pre ++ suf).length < 1000000 → (∀ x ∈ suf, x.2.2.2.2.length < 1000000) → ancepsref27_Same.l4 (pre ++ suf) (pre ++ suf) (pre.length : Nat) = some (true, ())
  | [], pre, h, hx => by rw [ancepsref27_Same.l4_eq, ifB_not _ _ (lt_end pre)]
  | x :: suf, pre, h, hx => by
    rw [ancepsref27_Same.l4_eq, ifB_of _ _ (lt_at pre x suf), ixAt_at]
    simp only [bindD_some]
    rw [sameBreak_f (hx x (by simp)), bindD_some, ifB_not _ _ (by simp), w_at (p := pre) (x := x) (s := suf) (by omega), app_at pre x suf, same_l4 suf (pre ++ [x]) (by rw [← app_at]; exact h) (fun y hy => hx y (by simp [hy]))]
theorem same_f {l : List Brk} (h : l.length < 1000000) (hx : ∀ x ∈ l, x.2.2.2.2.length < 1000000) : ancepsref27_Same.f l l = some (true, ()) := by
  rw [ancepsref27_Same.f_eq, ifB_not _ _ (by simp)]
  exact same_l4 l [] (by simpa using h) hx
theorem brks_mem (ps : List Part) (ms : List Mark) : ∀ (l : List Int) (i : Nat), ∀ x ∈ brks ps ms l i, ∃ pl : Nat, x = bk ps ms pl
  | [], _, x, h => by simp [brks] at h
  | [_], _, x, h => by simp [brks] at h
  | a :: y :: s, i, x, h => by
    simp only [brks, List.mem_append] at h
    rcases h with h | h
    · cases hx : decide (a ≥ 2) with
      | true => rw [hx] at h; simp at h; exact ⟨i, h⟩
      | false => rw [hx] at h; simp at h
    · exact brks_mem ps ms (y :: s) (i + 1) x h
theorem BR_ok (xs : List Int) (ps : List Part) (ms : List Mark) (h : ms.length < 1000) : (BR xs ps ms).1.length ≤ 40 ∧ ∀ x ∈ (BR xs ps ms).1, x.2.2.2.2.length < 1000000 := by
  unfold BR
  cases hv : (vl xs != 0) with
  | true => simp
  | false =>
    have h0 : vl xs = 0 := by simpa using hv
    cases dvd (xs.length : Nat) 0 ps with
    | false => simp
    | true =>
      refine ⟨Nat.le_trans (brks_len ps ms xs 1) (vl_zero h0).1, fun x hx => ?_⟩
      obtain ⟨pl, rfl⟩ := brks_mem ps ms xs 1 x hx
      have := mk_len pl ms
      show (mk pl ms).length < _
      omega

/-! few -/
theorem few_l9 (ps : List Part) (p3 : List Int) : ∀ (suf pre : List Mark) (n : Int), (pre ++ suf).length < 1000000 → ∃ b, ancepsref26_Few.l9 n (pre.length : Nat) ps p3 (pre ++ suf) = some (b, ())
  | [], pre, n, h => by rw [ancepsref26_Few.l9_eq, ifB_not _ _ (lt_end pre)]; exact ⟨_, rfl⟩
  | x :: suf, pre, n, h => by
    rw [ancepsref26_Few.l9_eq, ifB_of _ _ (lt_at pre x suf), ixAt_at, bindD_some, w_at (p := pre) (x := x) (s := suf) (by omega), app_at pre x suf]
    exact few_l9 ps p3 suf (pre ++ [x]) _ (by rw [← app_at]; exact h)
theorem few_l5 (p3 : List Int) (ms : List Mark) (hm : ms.length < 1000000) : ∀ (suf pre : List Part) (n : Int), (pre ++ suf).length < 1000000 → ∃ b, ancepsref26_Few.l5 n (pre.length : Nat) (pre ++ suf) p3 ms = some (b, ())
  | [], pre, n, h => by
    rw [ancepsref26_Few.l5_eq, ifB_not _ _ (lt_end pre)]
    exact few_l9 _ p3 ms [] n (by simpa using hm)
  | x :: suf, pre, n, h => by
    rw [ancepsref26_Few.l5_eq, ifB_of _ _ (lt_at pre x suf), ixAt_at, bindD_some, w_at (p := pre) (x := x) (s := suf) (by omega), app_at pre x suf]
    exact few_l5 p3 ms hm suf (pre ++ [x]) _ (by rw [← app_at]; exact h)
theorem few_f (ps : List Part) (p3 : List Int) (ms : List Mark) : ∃ b, ancepsref26_Few.f ps p3 ms = some (b, ()) ∧ (b = true → ps.length ≤ 60 ∧ ms.length ≤ 60) := by
  rw [ancepsref26_Few.f_eq]
  cases h1 : decide (((ps.length : Nat) : Int) > 60) with
  | true => exact ⟨false, rfl, by simp⟩
  | false =>
    cases h2 : decide (((p3.length : Nat) : Int) > 10) with
    | true => exact ⟨false, rfl, by simp⟩
    | false =>
      cases h3 : decide (((ms.length : Nat) : Int) > 60) with
      | true => exact ⟨false, rfl, by simp⟩
      | false =>
        have h1 := of_decide_eq_false h1
        have h3 := of_decide_eq_false h3
        obtain ⟨b, hb⟩ := few_l5 p3 ms (by omega) ps [] 0 (by simp only [List.nil_append]; omega)
        exact ⟨b, hb, fun _ => ⟨by omega, by omega⟩⟩
theorem breaks_law (xs : List Int) (ps : List Part) (p3 : List Int) (ms : List Mark) : ancepslaw27_CaesuraBreaks.f xs ps p3 ms = some (true, ()) := by
  rw [ancepslaw27_CaesuraBreaks.f_eq, awake_f]; simp only [bindD_some, Bool.not_true, ifB_false]
  cases h : decide (((xs.length : Nat) : Int) > 60) with
  | true => rfl
  | false =>
    have h' := of_decide_eq_false h
    obtain ⟨b, hb, hb'⟩ := few_f ps p3 ms
    rw [ifB_false, hb, bindD_some]
    cases b with
    | false => rfl
    | true =>
      obtain ⟨h1, h2⟩ := hb' rfl
      rw [Bool.not_true, ifB_false, clone_f (by omega), bindD_some, Breaks_f xs p3 (by omega) (by omega), refBreaks_f xs p3 (by omega) (by omega)]
      simp only [bindD_some]
      obtain ⟨h3, h4⟩ := BR_ok xs ps ms (by omega)
      rw [beq_self_eq_true, ifB_true, same_f (by omega) h4]; rfl
end Go.Proofs.C27
