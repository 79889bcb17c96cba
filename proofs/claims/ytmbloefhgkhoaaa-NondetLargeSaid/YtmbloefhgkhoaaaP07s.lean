/- Automata with choices: the law of large automata. -/
import Derived.Test.YtmbloefhgkhoaaaP07r
set_option linter.unusedVariables false
set_option linter.unusedSimpArgs false
namespace Go.Proofs.C07
open Go Go.Proofs.R
open M (lt_at lt_end w_at app_at LLI)
set_option linter.unusedVariables false
set_option linter.unusedSimpArgs false
set_option maxRecDepth 100000
abbrev NT := Int × (Int × (List Int × (List Ed × List Int)))
/-- the automaton accepts the word of no letters, and no word of the letter 0 -/
structure LgOk (x : NT) : Prop where
  ok : nok x.1 x.2.1 x.2.2.1 x.2.2.2.1 x.2.2.2.2 = true
  l : 1 ≤ x.1
  e : nacc x.2.1.toNat x.2.2.1 x.2.2.2.1 x.2.2.2.2 [] = true
  o : nacc x.2.1.toNat x.2.2.1 x.2.2.2.1 x.2.2.2.2 [0] = false
theorem large_l12 (rs : List (NT × Int)) (hl : rs.length < 1000000) (h : ∀ r ∈ rs, r.2 = 3 ∨ (r.2 = 0 ∧ LgOk r.1)) : ∀ (g k : Nat), k + g = rs.length →
    ancepslaw07_NondetLarge.l12 ((rs.length : Nat) : Int) (k : Nat) rs = some (true, ())
  | 0, k, hk => by
    rw [ancepslaw07_NondetLarge.l12_eq, ifB_not _ _ (decide_eq_false (by omega))]
  | g + 1, k, hk => by
    have ih := large_l12 rs hl h g (k + 1) (by omega)
    have hkl : k < rs.length := by omega
    have hix : ixAt rs ((k : Nat) : Int) = some rs[k] := by rw [ixAt_nat, List.getElem?_eq_getElem hkl]
    rw [ancepslaw07_NondetLarge.l12_eq, ifB_of _ _ (decide_eq_true (by omega)), hix, bindD_some, bindD_some, w64_succ (by omega)]
    rcases h _ (List.getElem_mem hkl) with h3 | ⟨h0, ho⟩
    · rw [h3, ifB_of _ _ (by rfl)]; exact ih
    · have hN := nv_of ho.ok
      have a1 := hN.stl; have a2 := hN.s4; have a3 := hN.acl
      rw [h0, ifB_not _ _ (by rfl), accepts_f _ _ _ _ _ _ (by omega) (by omega) (by simp), bindD_some, accepts_f _ _ _ _ _ _ (by omega) (by omega) (by simp), bindD_some,
        nres_ok ho.ok (by simp), nres_ok ho.ok (by have := ho.l; simp; omega), ho.e, ho.o]
      exact ih
theorem way_nil : ∀ {w : List Int} {s t : Int}, Way [] w s t → w = []
  | [], _, _, _ => rfl
  | _ :: _, _, _, ⟨_, h, _⟩ => by cases h
theorem acc_one {s : Int} {w : List Int} : Acc [s] [] [s] w ↔ w = [] := by
  constructor
  · rintro ⟨a, _, b, _, h⟩; exact way_nil h
  · rintro rfl; exact ⟨s, by simp, s, by simp, Eps.refl s⟩
theorem rep_one {s : Int} {w : List Int} (h : Rep (Acc [s] [] [s]) w) : w = [] := by
  induction h with
  | nil => rfl
  | app h1 _ ih => rw [acc_one.1 h1, ih]; rfl
theorem nok_one {n : Int} (h1 : 1 ≤ n) (h2 : n ≤ 400) : nok 1 n [n - 1] [] [n - 1] = true := by
  unfold nok ascP ascP edP
  simp; omega
theorem lg_of {L S : Int} {St Ac : List Int} {E : List Ed} (hn : nok L S St E Ac = true) (hL : 1 ≤ L) (he : Acc St E Ac []) (ho : ¬ Acc St E Ac [0]) : LgOk (L, (S, (St, (E, Ac)))) := by
  refine ⟨hn, hL, (nacc_way (nv_of hn).eiS (nv_of hn).acS _).2 he, ?_⟩
  cases h : nacc S.toNat St E Ac [0] with
  | false => rfl
  | true => exact (ho ((nacc_way (nv_of hn).eiS (nv_of hn).acS _).1 h)).elim
theorem large_law (p q : Int) (h0 : 0 ≤ p ∧ p < 65536) (h1 : 0 ≤ q ∧ q < 65536) : ancepslaw07_NondetLarge.f p q = some (true, ()) := by
  have t1 : 0 ≤ Int.tmod p 400 ∧ Int.tmod p 400 < 400 := ⟨Int.tmod_nonneg _ h0.1, Int.tmod_lt_of_pos _ (by omega)⟩
  have t2 : 0 ≤ Int.tmod q 400 ∧ Int.tmod q 400 < 400 := ⟨Int.tmod_nonneg _ h1.1, Int.tmod_lt_of_pos _ (by omega)⟩
  rw [ancepslaw07_NondetLarge.f_eq, awake_f, w64 (n := p) (by omega), w64 (n := q) (by omega)]
  obtain ⟨n, hn⟩ : ∃ n, n = 1 + Int.tmod p 400 := ⟨_, rfl⟩
  obtain ⟨m, hm⟩ : ∃ m, m = 1 + Int.tmod q 400 := ⟨_, rfl⟩
  rw [← hn, ← hm, w64 (n := n) (by omega), w64 (n := m) (by omega), w64 (n := n - 1) (by omega), w64 (n := m - 1) (by omega), w64 (n := n + m) (by omega)]
  simp only [bindD_some, Bool.not_true, ifB_false]
  have ha := nok_one (n := n) (by omega) (by omega)
  have hb := nok_one (n := m) (by omega) (by omega)
  have hA := nv_of ha
  have hB := nv_of hb
  have htwo : two 1 n [n - 1] [] [n - 1] 1 m [m - 1] [] [m - 1] = true := two_iff.2 ⟨ha, hb, rfl⟩
  have sa : ((n.toNat : Nat) : Int) = n := by omega
  have one : ((([] : List Int).length : Nat) : Int) = 0 := rfl
  have hU : ∃ x e, nondet_Union.f 1 n [n - 1] [] [n - 1] 1 m [m - 1] [] [m - 1] = some (x.1, (x.2.1, (x.2.2.1, (x.2.2.2.1, (x.2.2.2.2, (e, ())))))) ∧ (e == 3) = decide (n + m > 400) ∧ (e = 3 ∨ (e = 0 ∧ LgOk x)) := by
    rcases union_f (L := 1) (Sa := n) (Ta := [n - 1]) (Ea := []) (Aa := [n - 1]) (L' := 1) (Sb := m) (Tb := [m - 1]) (Eb := []) (Ab := [m - 1]) (by simp) (by simp) (by simp) (by simp) with ⟨h, _⟩ | ⟨_, h, h', _⟩ | ⟨_, h, hu, h', _⟩
    · rw [htwo] at h; cases h
    · refine ⟨(0, (0, ([], ([], [])))), 3, h', ?_, .inl rfl⟩
      simp [shE] at h
      rw [decide_eq_true (by omega)]; rfl
    · refine ⟨(1, (n + m, (_, (_, _)))), 0, h', by rw [decide_eq_false (by omega)]; rfl, .inr ⟨rfl, lg_of hu (by omega) ?_ ?_⟩⟩
      · have := acc_union hA.eiS hB.eiS hA.stS hA.acS hB.stS hB.acS []
        rw [sa] at this
        exact this.2 (.inl (acc_one.2 rfl))
      · have := acc_union hA.eiS hB.eiS hA.stS hA.acS hB.stS hB.acS [0]
        rw [sa] at this
        intro h
        rcases this.1 h with h | h
        · have := acc_one.1 h; cases this
        · have := acc_one.1 h; cases this
  have hV : ∃ x e, nondet_Concat.f 1 n [n - 1] [] [n - 1] 1 m [m - 1] [] [m - 1] = some (x.1, (x.2.1, (x.2.2.1, (x.2.2.2.1, (x.2.2.2.2, (e, ())))))) ∧ (e == 3) = decide (n + m > 400) ∧ (e = 3 ∨ (e = 0 ∧ LgOk x)) := by
    rcases concat_f (L := 1) (Sa := n) (Ta := [n - 1]) (Ea := []) (Aa := [n - 1]) (L' := 1) (Sb := m) (Tb := [m - 1]) (Eb := []) (Ab := [m - 1]) (by simp) (by simp) (by simp) (by simp) with ⟨h, _⟩ | ⟨_, h, h', _⟩ | ⟨_, h, rv, srv, hu, h', _⟩
    · rw [htwo] at h; cases h
    · refine ⟨(0, (0, ([], ([], [])))), 3, h', ?_, .inl rfl⟩
      simp [shE, joE] at h
      rw [decide_eq_true (by omega)]; rfl
    · have hc : ∀ w : List Int, (∀ c ∈ w, 0 ≤ c) → (Acc [n - 1] rv (shL n [m - 1]) w ↔ w = []) := by
        intro w hw
        have := acc_concat hA.eiS hB.eiS hA.stS hA.acS hB.stS hB.acS w hw
        rw [sa] at this
        refine ((acc_srt srv w).trans this).trans ⟨?_, ?_⟩
        · rintro ⟨u, v, rfl, h1, h2⟩; rw [acc_one.1 h1, acc_one.1 h2]; rfl
        · rintro rfl; exact ⟨[], [], rfl, acc_one.2 rfl, acc_one.2 rfl⟩
      refine ⟨(1, (n + m, (_, (_, _)))), 0, h', by rw [decide_eq_false (by omega)]; rfl, .inr ⟨rfl, lg_of hu (by omega) ((hc [] (by simp)).2 rfl) ?_⟩⟩
      intro h; have := (hc [0] (by simp)).1 h; cases this
  have hS : ∃ x e, nondet_Star.f 1 n [n - 1] [] [n - 1] = some (x.1, (x.2.1, (x.2.2.1, (x.2.2.2.1, (x.2.2.2.2, (e, ())))))) ∧ (e == 3) = (n == 400) ∧ (e = 3 ∨ (e = 0 ∧ LgOk x)) := by
    rcases star_f (L := 1) (S := n) (St := [n - 1]) (E := []) (Ac := [n - 1]) (by simp) (by simp) with ⟨h, _⟩ | ⟨_, h, h', _⟩ | ⟨_, h, rs, srs, hu, h', _⟩
    · rw [ha] at h; cases h
    · refine ⟨(0, (0, ([], ([], [])))), 3, h', ?_, .inl rfl⟩
      simp [stE] at h
      rw [h]; rfl
    · have hc : ∀ w : List Int, (∀ c ∈ w, 0 ≤ c) → (Acc [n] rs [n] w ↔ w = []) := by
        intro w hw
        have := acc_star hA.eiS hA.stS hA.acS w hw
        rw [sa] at this
        refine ((acc_srt srs w).trans this).trans ⟨rep_one, ?_⟩
        rintro rfl; exact .nil
      refine ⟨(1, (n + 1, (_, (_, _)))), 0, h', ?_, .inr ⟨rfl, lg_of hu (by omega) ((hc [] (by simp)).2 rfl) ?_⟩⟩
      · have : (n == 400) = false := by simp; omega
        rw [this]; rfl
      · intro h; have := (hc [0] (by simp)).1 h; cases this
  obtain ⟨x, e, h1, h2, h3⟩ := hU
  obtain ⟨y, f, h4, h5, h6⟩ := hS
  obtain ⟨z, g, h7, h8, h9⟩ := hV
  rw [h1, bindD_some, h4, bindD_some, h7, bindD_some]
  simp only [h2, h5, h8, beq_self_eq_true, Bool.not_true, ifB_false]
  have := large_l12 [(x, e), (y, f), (z, g)] (by simp) (by
    intro r hr
    simp only [List.mem_cons, List.not_mem_nil, or_false] at hr
    rcases hr with rfl | rfl | rfl
    · exact h3
    · exact h6
    · exact h9) 3 0 rfl
  exact this
theorem fits_u16 {n : Int} (h : (Lit.int .u16 n).wf = true) : 0 ≤ n ∧ n < 65536 := by
  simp only [Lit.wf, Bool.and_eq_true, decide_eq_true_eq] at h
  have h1 : IntKind.u16.min = 0 := rfl
  have h2 : IntKind.u16.max = 65535 := rfl
  omega
end Go.Proofs.C07
