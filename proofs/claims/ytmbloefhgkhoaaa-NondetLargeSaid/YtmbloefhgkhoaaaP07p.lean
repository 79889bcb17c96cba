/- Automata with choices: Concat and Star, and the law of errors. -/
import Derived.Test.YtmbloefhgkhoaaaP07o
set_option linter.unusedVariables false
set_option linter.unusedSimpArgs false
namespace Go.Proofs.C07
open Go Go.Proofs.R
open M (lt_at lt_end w_at app_at LLI)
set_option linter.unusedVariables false
set_option linter.unusedSimpArgs false
set_option maxRecDepth 100000

section
variable {L L' Sa Sb : Int} {Ta Tb : List Int} {Ea Eb : List Ed} {Aa Ab : List Int}
theorem rcon_l11 (c1 : Int) (d1 : List Int) (d2 : List Ed) (c3 c4 : Int) (d4 : List Ed) (d5 : List Int) (b0 b1 l1 S : Int) (e1 : List Int) (e2 : List Ed) (e3 : List Int) (T A : List Int) (hk : sm Sa) (i : Int) {s : Int} (hs : ixAt Aa i = some s) : ∀ (suf pre : List Int) (E : List Ed), (pre ++ suf).length < 1000000 → E.length + suf.length < 1000000 → (∀ x ∈ suf, sm x) →
    ancepsref07_Concat.l11 i (pre.length : Nat) c1 Sa d1 d2 Aa c3 c4 (pre ++ suf) d4 d5 b0 b1 l1 S e1 e2 e3 T E A =
      ancepsref07_Concat.l8 (IntKind.i64.wrap (i + 1)) c1 Sa d1 d2 Aa c3 c4 (pre ++ suf) d4 d5 b0 b1 l1 S e1 e2 e3 T (E ++ suf.map fun t => (s, ((-1 : Int), t + Sa))) A
  | [], pre, E, h, h2, _ => by rw [ancepsref07_Concat.l11_eq, ifB_not _ _ (lt_end pre)]; simp
  | x :: suf, pre, E, h, h2, hx => by
    have hl : pre.length < 1000000 := by simp only [List.length_append] at h; omega
    simp only [List.length_cons] at h2
    rw [ancepsref07_Concat.l11_eq, ifB_of _ _ (lt_at pre x suf), hs, bindD_some, ixAt_at, bindD_some, wadd (hx x List.mem_cons_self) hk, grow_one _ (by omega), bindD_some, w_pre pre x (by omega), app_at pre x suf,
      rcon_l11 c1 d1 d2 c3 c4 d4 d5 b0 b1 l1 S e1 e2 e3 T A hk i hs suf (pre ++ [x]) _ (by rw [← app_at]; exact h) (by simp; omega) (fun y hy => hx y (List.mem_cons_of_mem _ hy))]
    simp
theorem rcon_l8 (c1 : Int) (d1 : List Int) (d2 : List Ed) (c3 c4 : Int) (d4 : List Ed) (d5 : List Int) (b0 b1 S : Int) (e1 : List Int) (e2 : List Ed) (e3 : List Int) (T A : List Int) (hk : sm Sa) (hT : ∀ x ∈ Tb, sm x) (hTl : Tb.length < 1000000) : ∀ (suf pre : List Int) (E : List Ed), pre ++ suf = Aa → Aa.length < 1000000 → E.length + suf.length * Tb.length < 1000000 →
    ancepsref07_Concat.l8 (pre.length : Nat) c1 Sa d1 d2 Aa c3 c4 Tb d4 d5 b0 b1 L S e1 e2 e3 T E A = bindD (ancepsref07_sorted.f (E ++ joE suf Sa Tb)) fun t347 => some (L, (S, (T, (t347.1, (A, ((0 : Int), ()))))))
  | [], pre, E, he, h, h2 => by
    rw [List.append_nil] at he
    subst he
    rw [ancepsref07_Concat.l8_eq, ifB_not _ _ (by simp)]; simp only [joE, List.flatMap_nil, List.append_nil]
  | x :: suf, pre, E, he, h, h2 => by
    have hl : pre.length < 1000000 := by rw [← he] at h; simp only [List.length_append] at h; omega
    simp only [List.length_cons, Nat.add_mul, Nat.one_mul] at h2
    have hx : ixAt Aa (pre.length : Nat) = some x := by rw [← he]; exact ixAt_at _ _ _
    have h11 := rcon_l11 (Aa := Aa) (Sa := Sa) c1 d1 d2 c3 c4 d4 d5 b0 b1 L S e1 e2 e3 T A hk (pre.length : Nat) hx Tb [] E (by simpa using hTl) (by omega) hT
    rw [List.nil_append, List.length_nil, Int.ofNat_zero] at h11
    have hlt : decide (((pre.length : Nat) : Int) < ((Aa.length : Nat) : Int)) = true := by rw [← he]; exact lt_at pre x suf
    rw [ancepsref07_Concat.l8_eq, ifB_of _ _ hlt, h11, w_pre pre x (by omega),
      rcon_l8 c1 d1 d2 c3 c4 d4 d5 b0 b1 S e1 e2 e3 T A hk hT hTl suf (pre ++ [x]) _ (by rw [← app_at]; exact he) h (by simp only [List.length_append, List.length_map]; omega), joE_cons, List.append_assoc]
/-- the edges of a word behind a word -/
theorem con_nd (hA : NV2 L Sa Ta Ea Aa) (hB : NV2 L Sb Tb Eb Ab) : ((Ea ++ shE Sa Eb) ++ joE Aa Sa Tb).Nodup := by
  rw [List.nodup_append]
  refine ⟨asc_nd (be_asc hA hB), ?_, ?_⟩
  · have h1 : Aa.Nodup := (asc_pw hA.aa).1.imp fun h e => by omega
    have h2 : Tb.Nodup := (asc_pw hB.sa).1.imp fun h e => by omega
    clear hA hB
    induction Aa with
    | nil => simp [joE]
    | cons s A ih =>
      obtain ⟨h3, h4⟩ := List.nodup_cons.1 h1
      rw [joE_cons, List.nodup_append]
      refine ⟨?_, ih h4, ?_⟩
      · rw [List.nodup_iff_pairwise_ne] at *
        exact List.pairwise_map.2 (h2.imp fun h e => by simp only [Prod.mk.injEq] at e; omega)
      · intro a ha b hb e
        obtain ⟨t, _, rfl⟩ := List.mem_map.1 ha
        obtain ⟨s', hs', t', _, rfl⟩ := mem_joE.1 hb
        simp only [Prod.mk.injEq] at e
        exact h3 (e.1 ▸ hs')
  · intro a ha b hb e
    subst e
    obtain ⟨s, hs, t, ht, rfl⟩ := mem_joE.1 hb
    have h1 := hA.ac s hs
    have h2 := hB.st t ht
    rcases List.mem_append.1 ha with h | h
    · have := hA.ed _ h; simp only at this; omega
    · have := hB.ed _ (mem_shE.1 h); simp only at this; omega
theorem con_ok (hA : NV2 L Sa Ta Ea Aa) (hB : NV2 L Sb Tb Eb Ab) : ∀ x ∈ (Ea ++ shE Sa Eb) ++ joE Aa Sa Tb, 0 ≤ x.1 ∧ x.1 < Sa + Sb ∧ 0 ≤ x.2.2 ∧ x.2.2 < Sa + Sb ∧ -1 ≤ x.2.1 ∧ x.2.1 < L := by
  intro x hx
  rcases List.mem_append.1 hx with hx | hx
  · exact be_ok hA hB x hx
  · obtain ⟨s, hs, t, ht, rfl⟩ := mem_joE.1 hx
    have h1 := hA.ac s hs
    have h2 := hB.st t ht
    have := hA.s0; have := hB.s0; have := hA.l1
    simp only; omega
theorem sh_asc {S T : Int} {m : List Int} (hS : 0 ≤ S) (hT : 0 ≤ T) (hm : ascP T none m = true) : ascP (S + T) none (shL S m) = true := by
  have := un_asc (l := []) hS hT rfl hm
  rwa [List.nil_append] at this
theorem mul_le {a b : Nat} (ha : a ≤ 400) (hb : b ≤ 400) : a * b ≤ 160000 := Nat.le_trans (Nat.mul_le_mul ha hb) (by omega)
theorem small_srt {L S : Int} {T A : List Int} {E r : List Ed} (hr : Srt r E) (hn : E.Nodup) (hl : E.length < 1000000) : smallT L S T E A = if S > 400 ∨ ((E.length : Nat) : Int) > 4000 then some (errV 3) else some (L, (S, (T, (r, (A, (0, ())))))) := by
  unfold smallT
  by_cases h1 : S > 400
  · rw [ifB_of _ _ (decide_eq_true h1), if_pos (.inl h1)]
  · by_cases h2 : ((E.length : Nat) : Int) > 4000
    · rw [ifB_not _ _ (decide_eq_false h1), ifB_of _ _ (decide_eq_true h2), if_pos (.inr h2)]
    · rw [ifB_not _ _ (decide_eq_false h1), ifB_not _ _ (decide_eq_false h2), grow_ok (by omega), bindD_some, sort_edges hr hn, bindD_some, if_neg (by simp only [not_or]; exact ⟨h1, h2⟩)]
theorem concat_f (h1 : Ta.length < 1000000) (h2 : Aa.length < 1000000) (h3 : Tb.length < 1000000) (h4 : Ab.length < 1000000) :
    (two L Sa Ta Ea Aa L' Sb Tb Eb Ab = false ∧ nondet_Concat.f L Sa Ta Ea Aa L' Sb Tb Eb Ab = some (errV 1) ∧ ancepsref07_Concat.f L Sa Ta Ea Aa L' Sb Tb Eb Ab = some (errV 1)) ∨
    (two L Sa Ta Ea Aa L' Sb Tb Eb Ab = true ∧ (400 < Sa + Sb ∨ 4000 < ((Ea ++ shE Sa Eb) ++ joE Aa Sa Tb).length) ∧ nondet_Concat.f L Sa Ta Ea Aa L' Sb Tb Eb Ab = some (errV 3) ∧ ancepsref07_Concat.f L Sa Ta Ea Aa L' Sb Tb Eb Ab = some (errV 3)) ∨
    (two L Sa Ta Ea Aa L' Sb Tb Eb Ab = true ∧ Sa + Sb ≤ 400 ∧ ∃ r, Srt r ((Ea ++ shE Sa Eb) ++ joE Aa Sa Tb) ∧ nok L (Sa + Sb) Ta r (shL Sa Ab) = true ∧
      nondet_Concat.f L Sa Ta Ea Aa L' Sb Tb Eb Ab = some (L, (Sa + Sb, (Ta, (r, (shL Sa Ab, (0, ())))))) ∧ ancepsref07_Concat.f L Sa Ta Ea Aa L' Sb Tb Eb Ab = some (L, (Sa + Sb, (Ta, (r, (shL Sa Ab, (0, ()))))))) := by
  cases ht : two L Sa Ta Ea Aa L' Sb Tb Eb Ab with
  | false =>
    refine .inl ⟨rfl, ?_, ?_⟩
    · rw [nondet_Concat.f_eq, beside_f h1 h2 h3 h4, ht]; rfl
    · rw [ancepsref07_Concat.f_eq, rtwo_f h1 h2 h3 h4, ht]; rfl
  | true =>
    right
    obtain ⟨ha, hb, rfl⟩ := two_iff.1 ht
    have hA := nv2_of ha
    have hB := nv2_of hb
    have a1 := hA.stl; have a2 := hA.s4; have a3 := hB.acl; have a4 := hB.s4; have a5 := hA.acl; have a6 := hB.stl; have a7 := hA.e; have a8 := hB.e
    have hl3 : (shE Sa Eb).length = Eb.length := by simp [shE]
    have hmul : Aa.length * Tb.length ≤ 160000 := mul_le (by omega) (by omega)
    have hlen : ((Ea ++ shE Sa Eb) ++ joE Aa Sa Tb).length = (Ea ++ shE Sa Eb).length + Aa.length * Tb.length := by rw [List.length_append, joE_len]
    have hlb : (Ea ++ shE Sa Eb).length ≤ 8000 := by rw [List.length_append, hl3]; omega
    have hw : IntKind.i64.wrap (((((Ea ++ shE Sa Eb).length : Nat) : Int)) + IntKind.i64.wrap (((Aa.length : Nat) : Int) * ((Tb.length : Nat) : Int))) = ((((Ea ++ shE Sa Eb) ++ joE Aa Sa Tb).length : Nat) : Int) := by
      rw [← Int.natCast_mul, w64_nat (by omega), w64 (by omega), hlen]; omega
    obtain ⟨r, hr1, hr2⟩ := srt_f (l := (Ea ++ shE Sa Eb) ++ joE Aa Sa Tb) (by omega)
    have hnd := con_nd hA hB
    have hc8 := con_l8 (L := L) (Sa := Sa) (Tb := Tb) L Ta Ea Aa L Sb Eb Ab 0 0 (Sa + Sb) [] [] [] Ta (shL Sa Ab) hA.smS hB.smT (by omega) Aa [] (Ea ++ shE Sa Eb) (by simp; omega) (by omega)
    have hr8 := rcon_l8 (L := L) (Sa := Sa) (Tb := Tb) (Aa := Aa) L Ta Ea L Sb Eb Ab 0 0 (Sa + Sb) [] [] [] Ta (shL Sa Ab) hA.smS hB.smT (by omega) Aa [] (Ea ++ shE Sa Eb) rfl (by omega) (by omega)
    rw [List.nil_append, List.length_nil, Int.ofNat_zero] at hc8
    rw [List.length_nil, Int.ofNat_zero, hr1, bindD_some] at hr8
    have hp : nondet_Concat.f L Sa Ta Ea Aa L Sb Tb Eb Ab = ifB (decide (((((Ea ++ shE Sa Eb) ++ joE Aa Sa Tb).length : Nat) : Int) > 4000)) (some (errV 3)) (smallT L (Sa + Sb) Ta ((Ea ++ shE Sa Eb) ++ joE Aa Sa Tb) (shL Sa Ab)) := by
      rw [nondet_Concat.f_eq, beside_f h1 h2 h3 h4, bindD_some, ht]
      show (bindD (slices_Clone_int_int.f Ta) fun t239 => bindD (nondet_moved.f Ab Sa) fun t240 => ifB (decide (IntKind.i64.wrap (((((Ea ++ shE Sa Eb).length : Nat) : Int)) + IntKind.i64.wrap (((Aa.length : Nat) : Int) * ((Tb.length : Nat) : Int))) > 4000)) (some (errV 3)) (nondet_Concat.l8 Aa ((Aa.length : Nat) : Int) 0 L Sa Ta Ea Aa L Sb Tb Eb Ab 0 0 L (Sa + Sb) [] [] [] t239.1 (Ea ++ shE Sa Eb) t240.1)) = _
      rw [clone_f (by omega), bindD_some, moved_f hA.smS (by omega) hB.smA, bindD_some, hw, hc8]
    have hq : ancepsref07_Concat.f L Sa Ta Ea Aa L Sb Tb Eb Ab = ifB (decide (Sa + Sb > 400)) (some (errV 3)) (ifB (decide (((((Ea ++ shE Sa Eb) ++ joE Aa Sa Tb).length : Nat) : Int) > 4000)) (some (errV 3)) (some (L, (Sa + Sb, (Ta, (r, (shL Sa Ab, (0, ())))))))) := by
      rw [ancepsref07_Concat.f_eq, rtwo_f h1 h2 h3 h4, bindD_some, ht, ifB_not _ _ (by rfl), rboth_f hA.toNV hB.toNV, bindD_some]
      show ifB (decide (Sa + Sb > 400)) (some (errV 3)) (ifB (decide (IntKind.i64.wrap (((((Ea ++ shE Sa Eb).length : Nat) : Int)) + IntKind.i64.wrap (((Aa.length : Nat) : Int) * ((Tb.length : Nat) : Int))) > 4000)) (some (errV 3)) (ancepsref07_Concat.l8 0 L Sa Ta Ea Aa L Sb Tb Eb Ab 0 0 L (Sa + Sb) [] [] [] Ta (Ea ++ shE Sa Eb) (shL Sa Ab))) = _
      rw [hw, hr8]
    rw [hp, hq]
    by_cases he : ((((Ea ++ shE Sa Eb) ++ joE Aa Sa Tb).length : Nat) : Int) > 4000
    · rw [ifB_of _ _ (decide_eq_true he), ifB_of _ _ (decide_eq_true he)]
      refine .inl ⟨rfl, .inr (by omega), rfl, ?_⟩
      cases decide (Sa + Sb > 400) <;> rfl
    · rw [ifB_not _ _ (decide_eq_false he), ifB_not _ _ (decide_eq_false he), small_srt hr2 hnd (by omega)]
      by_cases hs : Sa + Sb > 400
      · rw [if_pos (.inl hs), ifB_of _ _ (decide_eq_true hs)]
        exact .inl ⟨rfl, .inl (by omega), rfl, rfl⟩
      · rw [if_neg (by simp only [not_or]; exact ⟨hs, he⟩), ifB_not _ _ (decide_eq_false hs)]
        refine .inr ⟨rfl, by omega, r, hr2, nok_of ⟨hA.l1, hA.l8⟩ ⟨by have := hA.s0; have := hB.s0; omega, by omega⟩ (by rw [hr2.len hnd]; omega) ?_ (sh_asc hA.s0 hB.s0 hB.aa) hr2.asc (fun x hx => con_ok hA hB x ((hr2.mem x).1 hx)), rfl, rfl⟩
        have := hB.s0
        exact ascP_of (asc_pw hA.sa).1 (fun x hx => by have := asc_mem hA.sa x hx; omega) (fun _ h => by cases h)
end
end Go.Proofs.C07
