/- Automata with choices: the law of what is reversed and determined twice. -/
import Derived.Test.YtmbloefhgkhoaaaP07s
set_option linter.unusedVariables false
set_option linter.unusedSimpArgs false
namespace Go.Proofs.C07
open Go Go.Proofs.R
open M (lt_at lt_end w_at app_at LLI)
set_option linter.unusedVariables false
set_option linter.unusedSimpArgs false
set_option maxRecDepth 100000

/-! more states than thirty -/
section
variable {L S : Int} {N : LLI} {A : LB}
theorem of_nok2 (h : M.V L S N A) (hn : N.length ≤ 64) : nok L (N.length : Int) (ofSt S) (allE 0 N) (memL A 0) = true := by
  have h1 := h.l1; have h2 := h.l8; have h3 := h.s; have h4 := h.a
  have e1 : ascP ((N.length : Nat) : Int) none (ofSt S) = true := by
    unfold ofSt
    by_cases h0 : S ≥ 0
    · rw [if_pos h0]; simp only [ascP, Bool.and_true, Bool.and_eq_true, decide_eq_true_eq]; omega
    · rw [if_neg h0]; rfl
  have e2 := asc_memL A 0 N.length none (by omega) (fun _ h => by cases h)
  have e3 := edP_allE (L := L) (n := N.length) N 0 none (by omega) (fun r hr => by
    obtain ⟨a, b⟩ := h.row r hr
    exact ⟨by omega, fun t ht => (b t ht).2⟩) (fun _ h => by cases h)
  have e4 := allE_len (m := 8) N 0 (fun r hr => by have := (h.row r hr).1; omega)
  unfold nok
  simp only [Bool.and_eq_true, decide_eq_true_eq]
  exact ⟨⟨h1, h2⟩, ⟨by omega, by omega⟩, by omega, e1, e2, e3⟩
theorem of_fam2 (h : M.V L S N A) (hn : N.length ≤ 64) : Fam N.length (allE 0 N) L.toNat ((List.range (N.length + 1)).map fun (k : Nat) => sgl N.length ((k : Int) - 1)) := by
  refine ⟨by simp; omega, ?_⟩
  intro l hl c hc _
  obtain ⟨k, hk, rfl⟩ := List.mem_map.1 hl
  rw [List.mem_range] at hk
  have h1 := h.l1
  have hs : -1 ≤ (k : Int) - 1 ∧ (k : Int) - 1 < N.length := by omega
  rw [nxB_sgl h hs (by omega)]
  have := (M.stp_get h hs (c := c) (by omega)).1
  refine List.mem_map.2 ⟨(M.stp N ((k : Int) - 1) c + 1).toNat, by rw [List.mem_range]; omega, ?_⟩
  congr 1; omega
theorem det_of2 (h : M.V L S N A) (hn : N.length ≤ 64) : detR L (N.length : Int) (ofSt S) (allE 0 N) (memL A 0) = canR L (M.lang L N A S) := by
  have := (detR_fam (of_nok2 h hn) (G := _) (by rw [Int.toNat_natCast]; exact of_fam2 h hn) (by
    rw [Int.toNat_natCast, st_sgl h]
    have hs := h.s
    exact List.mem_map.2 ⟨(S + 1).toNat, by rw [List.mem_range]; omega, by congr 1; omega⟩)).1
  rw [this, Int.toNat_natCast, of_lang h]
end

/-! all sets of few states -/
def allB : Nat → List LB
  | 0 => [[]]
  | n + 1 => (allB n).map (true :: ·) ++ (allB n).map (false :: ·)
theorem allB_len : ∀ n, (allB n).length = 2 ^ n
  | 0 => rfl
  | n + 1 => by unfold allB; rw [List.length_append, List.length_map, List.length_map, allB_len n, Nat.pow_succ]; omega
theorem mem_allB : ∀ {l : LB} {n : Nat}, l.length = n → l ∈ allB n
  | [], 0, _ => by simp [allB]
  | b :: l, n + 1, h => by
    have := mem_allB (l := l) (n := n) (by simpa using h)
    unfold allB
    rw [List.mem_append, List.mem_map, List.mem_map]
    cases b
    · exact .inr ⟨l, this, rfl⟩
    · exact .inl ⟨l, this, rfl⟩
theorem allB_64 {n : Nat} (h : n ≤ 6) : (allB n).length ≤ 64 := by
  rw [allB_len]; exact Nat.pow_le_pow_right (by omega) h
theorem fam_all {n : Nat} (hn : n ≤ 6) (E : List Ed) (L : Nat) : Fam n E L (allB n) := ⟨by have := allB_64 hn; omega, fun _ _ _ _ _ => mem_allB (nxB_len _ _)⟩

/-! a construction finds no more sets than there are -/
section
variable {n : Nat} {E : List Ed} {Ac : List Int}
theorem dAll_sub {L : Nat} {G : List LB} (hG : Fam n E L G) : ∀ (f i : Nat) (fs : List LB) (N : LLI) (A : LB), fs.Nodup → (∀ x ∈ fs, x ∈ G) → ∃ r, dAll L n E Ac f i fs N A = some r ∧ ∀ x ∈ r.1, x ∈ G
  | 0, i, fs, N, A, _, hs => ⟨_, rfl, hs⟩
  | f + 1, i, fs, N, A, hn, hs => by
    unfold dAll
    cases hx : fs[i]? with
    | none => exact ⟨_, rfl, hs⟩
    | some l =>
      obtain ⟨r, h1, h2, h3⟩ := dRow_some hG (hs l (List.mem_of_getElem? hx)) L 0 fs [] (by omega) hn hs
      simp only [h1]
      exact dAll_sub hG f (i + 1) r.2 _ _ h2 h3
theorem can_small {L S : Int} {St : List Int} (hv : nok L S St E Ac = true) {G : List LB} (hG : Fam S.toNat E L.toNat G) (h0 : st0 S.toNat E St ∈ G) :
    ∃ N A, M.W L N A ∧ M.Lin L N A (nlang L S.toNat St E Ac) ∧ N.length ≤ G.length := by
  have hN := nv_of hv
  have hN' : NV L ((S.toNat : Nat) : Int) St E Ac := by
    have : ((S.toNat : Nat) : Int) = S := by have := hN.s0; omega
    rw [this]; exact hN
  obtain ⟨r, hr, hsub⟩ := dAll_sub (Ac := Ac) hG 401 0 [st0 S.toNat E St] [] [] (by simp) (by simpa using h0)
  have hs : Sets S.toNat [st0 S.toNat E St] := ⟨by simp, fun B hB => by rw [List.mem_singleton.1 hB]; exact clo_len _ _ _, by simp⟩
  obtain ⟨⟨e, h1⟩, h2, h3, h4⟩ := dAll_facts 401 0 _ _ _ r hr rfl (by simp) (by omega) hs ⟨rfl, fun j r l hj => by simp at hj⟩
  have hW := sub_W hN'.l1 hN'.l8 h2 h4 h3
  have hpos : 0 < r.2.1.length := by rw [h3, h1]; simp
  have hlen := nodup_sub h2.nd hsub
  refine ⟨r.2.1, r.2.2, hW, ⟨0, by omega, by omega, ?_⟩, by omega⟩
  funext w
  unfold M.lang nlang
  cases hw : M.wdB L w with
  | false => rfl
  | true =>
    have hwd := M.wdB_iff.1 hw
    have := sub_run h2 h4 h3 w 0 (st0 S.toNat E St) (by rw [h1]; rfl) (fun c hc => by have := hwd c hc; omega)
    rw [show ((0 : Nat) : Int) = 0 from rfl] at this
    rw [this]; rfl
end
namespace M
def ders (l : Lang) (w : List Nat) : Lang := fun v => l (w ++ v)
theorem der_ders {l : Lang} {w : List Nat} {c : Nat} : der (ders l w) c = ders l (w ++ [c]) := by
  funext v; unfold der ders; rw [List.append_assoc]; rfl
/-- every state of the automaton of a language is reached by a word -/
theorem can_reach {L : Int} {N : LLI} {A : LB} (h : W L N A) {l : Lang} (hl : Lin L N A l) (q : Nat) (hq : q < (canN L l).length) :
    ∃ x, Wd L x ∧ ∀ w, Wd L w → acc (canA L l) (run (canN L l) (q : Int) w) = l (x ++ w) := by
  by_cases hne : l = emp
  · unfold canN at hq; rw [if_pos hne] at hq; cases hq
  · have hn := h.n
    unfold canN at hq
    rw [if_neg hne] at hq
    have hP : ∀ y, (Lin L N A y ∧ ∃ x, Wd L x ∧ y = ders l x) → ∀ c, c < L.toNat → (Lin L N A (der y c) ∧ ∃ x, Wd L x ∧ der y c = ders l x) := by
      rintro y ⟨h1, x, hx, rfl⟩ c hc
      refine ⟨lin_der h _ h1 c hc, x ++ [c], ?_, der_ders⟩
      intro d hd
      rcases List.mem_append.1 hd with hd | hd
      · exact hx d hd
      · rw [List.mem_singleton] at hd; subst hd; omega
    obtain ⟨_, h2, h3, _⟩ := cAll_facts (P := fun y => Lin L N A y ∧ ∃ x, Wd L x ∧ y = ders l x) hP (fun fs hf => fnd_len (L := L) (N := N) (A := A) ⟨hf.nd, hf.ne, fun x hx => (hf.p x hx).1⟩) fuelC 0 [l] []
      ⟨by simp, by simp [hne], by
        intro x hx
        rw [List.mem_singleton] at hx; subst hx
        exact ⟨hl, [], (fun _ h => nomatch h), rfl⟩⟩ rfl (by simp) (fun j r l' hj => by simp at hj) (by unfold fuelC; omega)
    have hq2 : q < (cRes L l).2.length := by
      have : (cRes L l).1.length = (cRes L l).2.length := h3
      omega
    obtain ⟨_, x, hx, e⟩ := h2.p _ (List.getElem_mem hq2)
    refine ⟨x, hx, fun w hw => ?_⟩
    have := cRes_lang h hl hne w q _ (List.getElem?_eq_getElem hq2) hw
    unfold canA canN
    rw [if_neg hne, if_neg hne, this]
    exact congrFun e w
end M

/-! the reverse of a deterministic automaton -/
section
variable {L S : Int} {N : LLI} {A : LB} {r : List Ed}
noncomputable def setW (N : LLI) (A : LB) (w : List Nat) : LB := flg N.length fun q => M.acc A (M.run N q w.reverse) = true
theorem rev_pos (hr : Srt r (revE (allE 0 N))) : ∀ x ∈ r, 0 ≤ x.2.1 := by
  rintro ⟨a, c, b⟩ hx
  exact allE_pos (b, (c, a)) (mem_revE.1 ((hr.mem (a, (c, b))).1 hx))
theorem setW_nil (h : M.V L S N A) (hr : Srt r (revE (allE 0 N))) : st0 N.length r (memL A 0) = setW N A [] := by
  refine flg_congr fun i hi => (rch_none (rev_pos hr)).trans ?_
  rw [mem_bat h.a]
  obtain ⟨k, rfl⟩ : ∃ k : Nat, i = k := ⟨i.toNat, by omega⟩
  show _ ↔ M.acc A (k : Int) = true
  rw [M.acc_nat, bat_nat]
  constructor
  · rintro ⟨_, h2⟩
    cases ha : A[k]? with
    | none => rw [ha] at h2; simp at h2
    | some b => rw [ha] at h2; cases b <;> simp_all
  · intro h2; exact ⟨hi, by rw [h2]; rfl⟩
theorem setW_step (h : M.V L S N A) (hr : Srt r (revE (allE 0 N))) (w : List Nat) {c : Nat} (hc : (c : Int) < L) : nxB N.length r (setW N A w) (c : Int) = setW N A (w ++ [c]) := by
  refine flg_congr fun i hi => (rch_none (rev_pos hr)).trans ?_
  rw [List.reverse_append]
  show tgt r (setW N A w) (c : Int) i ↔ M.acc A (M.run N (M.stp N i c) w.reverse) = true
  have hst := M.stp_get h (s := i) ⟨by omega, hi.2⟩ hc
  constructor
  · rintro ⟨⟨a, d, b⟩, hx, h1, h2, h3⟩
    simp only at h1 h2 h3
    subst h1; subst h3
    obtain ⟨j, k, row, t, g1, g2, g3, g4⟩ := mem_allE.1 (mem_revE.1 ((hr.mem _).1 hx))
    simp only [Prod.mk.injEq, Nat.zero_add] at g4
    obtain ⟨e1, e2, e3⟩ := g4
    have hk : k = c := by omega
    subst hk; subst e3
    have e := stp_at g1 g2
    rw [← e1] at e
    have hb : 0 ≤ a ∧ a < (N.length : Int) := by omega
    rw [e]
    exact (flg_bat hb).1 h2
  · intro ha
    have hp : 0 ≤ M.stp N i c := by
      rcases Int.lt_or_le (M.stp N i c) 0 with h0 | h0
      · rw [M.acc_neg (M.run_neg _ h0)] at ha; cases ha
      · exact h0
    obtain ⟨row, g1, g2⟩ := hst.2 hi.1
    refine ⟨(M.stp N i c, ((c : Int), i)), (hr.mem _).2 (mem_revE.2 (mem_allE.2 ⟨i.toNat, c, row, M.stp N i c, g1, g2, hp, ?_⟩)), rfl, (flg_bat ⟨hp, hst.1.2⟩).2 ha, rfl⟩
    simp only [Nat.zero_add]
    congr 1; omega
open Classical in
theorem fam_rev {n : Nat} {E : List Ed} {St Ac : List Int} (h : M.V L S N A) (hr : Srt r (revE (allE 0 N))) (hn : n ≤ 6)
    (hre : ∀ q : Nat, q < N.length → ∃ x, M.Wd L x ∧ ∀ w, M.Wd L w → M.acc A (M.run N (q : Int) w) = nlang L n St E Ac (x ++ w).reverse) :
    ∃ G, Fam N.length r L.toNat G ∧ st0 N.length r (memL A 0) ∈ G := by
  have hB : ∀ w w' : List Nat, M.Wd L w → M.Wd L w' → runB n E (st0 n E St) (w.map M.toI) = runB n E (st0 n E St) (w'.map M.toI) → setW N A w = setW N A w' := by
    intro w w' hw hw' e
    refine flg_congr fun i hi => ?_
    obtain ⟨k, rfl⟩ : ∃ k : Nat, i = k := ⟨i.toNat, by omega⟩
    obtain ⟨x, hx, hx2⟩ := hre k (by omega)
    have hrv : ∀ w : List Nat, M.Wd L w → M.Wd L w.reverse := fun w hw c hc => hw c (List.mem_reverse.1 hc)
    have hap : ∀ w : List Nat, M.Wd L w → M.wdB L (w ++ x.reverse) = true := fun w hw => M.wdB_iff.2 fun c hc => by
      rcases List.mem_append.1 hc with hc | hc
      · exact hw c hc
      · exact hx c (List.mem_reverse.1 hc)
    rw [hx2 _ (hrv w hw), hx2 _ (hrv w' hw'), List.reverse_append, List.reverse_append, List.reverse_reverse, List.reverse_reverse]
    unfold nlang nacc
    rw [hap w hw, hap w' hw', List.map_append, List.map_append]
    unfold runB at e ⊢
    rw [List.foldl_append, List.foldl_append, e]
  have hmem : ∀ w : List Nat, M.Wd L w → setW N A w ∈ (allB n).filterMap fun B => if h : ∃ w, M.Wd L w ∧ runB n E (st0 n E St) (w.map M.toI) = B then some (setW N A h.choose) else none := by
    intro w hw
    have hlen : (runB n E (st0 n E St) (w.map M.toI)).length = n := by
      have : ∀ (v : List Int) (B : LB), B.length = n → (runB n E B v).length = n := by
        intro v
        induction v with
        | nil => intro B h; exact h
        | cons c v ih => intro B _; exact ih _ (nxB_len _ _)
      exact this _ _ (clo_len _ _ _)
    rw [List.mem_filterMap]
    refine ⟨_, mem_allB hlen, ?_⟩
    have hp : ∃ v, M.Wd L v ∧ runB n E (st0 n E St) (v.map M.toI) = runB n E (st0 n E St) (w.map M.toI) := ⟨w, hw, rfl⟩
    rw [dif_pos hp]
    exact congrArg some (hB _ _ hp.choose_spec.1 hw hp.choose_spec.2)
  refine ⟨_, ⟨Nat.le_trans (List.length_filterMap_le _ _) (by have := allB_64 hn; omega), ?_⟩, (setW_nil h hr).symm ▸ hmem [] (fun _ h => by cases h)⟩
  intro X hX c hc _
  obtain ⟨B, _, hB2⟩ := List.mem_filterMap.1 hX
  by_cases hp : ∃ w, M.Wd L w ∧ runB n E (st0 n E St) (w.map M.toI) = B
  · rw [dif_pos hp] at hB2
    injection hB2 with hB2
    rw [← hB2, setW_step h hr _ (by omega)]
    refine hmem _ fun d hd => ?_
    rcases List.mem_append.1 hd with hd | hd
    · exact hp.choose_spec.1 d hd
    · rw [List.mem_singleton] at hd; subst hd; omega
  · rw [dif_neg hp] at hB2; cases hB2
end

theorem nlang_rev {L S : Int} {St : List Int} {E r : List Ed} {Ac : List Int} (h : NV L S St E Ac) (h' : NV L S Ac r St) (hr : Srt r (revE E)) (w : List Nat) : nlang L S.toNat Ac r St w = nlang L S.toNat St E Ac w.reverse := by
  unfold nlang
  have e1 : M.wdB L w.reverse = M.wdB L w := by unfold M.wdB; rw [List.all_reverse]
  have e2 := nacc_rev h h' hr (w.reverse.map M.toI)
  rw [← List.map_reverse, List.reverse_reverse] at e2
  rw [e1, e2]
theorem canR_of {L : Int} {N : LLI} {A : LB} {l : M.Lang} (h : M.W L N A) (hl : M.Lin L N A l) (hn : N.length ≤ 64) :
    M.V L (M.canS l) (M.canN L l) (M.canA L l) ∧ (M.canN L l).length ≤ 64 ∧ nlang L (M.canN L l).length (ofSt (M.canS l)) (allE 0 (M.canN L l)) (memL (M.canA L l) 0) = l ∧
      nok L ((M.canN L l).length : Int) (ofSt (M.canS l)) (allE 0 (M.canN L l)) (memL (M.canA L l) 0) = true ∧
      nondet_Of.f L (M.canS l) (M.canN L l) (M.canA L l) = some (L, (((M.canN L l).length : Int), (ofSt (M.canS l), (allE 0 (M.canN L l), (memL (M.canA L l) 0, (0, ())))))) := by
  have hc := M.can_len h hl
  have hV := M.can_V h hl (by omega)
  refine ⟨hV, by omega, (of_lang hV).trans (M.can_lang h hl), of_nok2 hV (by omega), ?_⟩
  have h0 : M.canN L l = [] ∨ 0 ≤ M.canS l := by
    unfold M.canN M.canS
    by_cases e : l = M.emp
    · rw [if_pos e]; exact .inl rfl
    · rw [if_neg e, if_neg e]; exact .inr (Int.le_refl 0)
  rw [of_f, hV.ok h0]; rfl
theorem twice_law (p0 p1 p2 p3 : Int) (p4 : List (List Int)) (h0 : 0 ≤ p0 ∧ p0 < 256) (h1 : 0 ≤ p1 ∧ p1 < 256) (h4 : ∀ x ∈ p4, B3 x) : ancepslaw07_NondetTwice.f p0 p1 p2 p3 p4 = some (true, ()) := by
  rw [ancepslaw07_NondetTwice.f_eq, awake_f]
  simp only [bindD_some, Bool.not_true, ifB_false]
  obtain ⟨S, St, E, Ac, g1, g2, g3, g4, g5, g6, g7⟩ := made_f p0 p1 p2 p3 p4 h0 h1 h4
  rw [g1, bindD_some]
  simp only
  generalize 1 + Int.tmod p0 4 = L at *
  have hN := nv_of g2
  have hst := hN.stl
  have hac := hN.acl
  rw [determine_f _ _ _ _ _ (by omega) (by omega), bindD_some]
  have hf0 := detR_fam g2 (fam_all (n := S.toNat) (by omega) E L.toNat) (mem_allB (clo_len _ _ _))
  obtain ⟨Nw, Aw, w1, w2, w3⟩ := can_small g2 (fam_all (n := S.toNat) (by omega) E L.toNat) (mem_allB (clo_len _ _ _))
  have w4 := allB_64 (n := S.toNat) (by omega)
  rw [hf0.1]
  obtain ⟨l, hl⟩ : ∃ l, l = nlang L S.toNat St E Ac := ⟨_, rfl⟩
  rw [← hl] at hf0 w2
  rw [← hl]
  -- the first turn
  rcases reverse_f L S St E Ac (by omega) (by omega) with ⟨k, _⟩ | ⟨_, r, k1, k2, k3, _⟩
  · rw [g2] at k; cases k
  have hN1 := nv_of k2
  have hf1 := detR_fam k2 (fam_all (n := S.toNat) (by omega) r L.toNat) (mem_allB (clo_len _ _ _))
  obtain ⟨Nx, Ax, x1, x2, x3⟩ := can_small k2 (fam_all (n := S.toNat) (by omega) r L.toNat) (mem_allB (clo_len _ _ _))
  have hrev : ∀ w, nlang L S.toNat Ac r St w = l w.reverse := fun w => by rw [hl]; exact nlang_rev hN hN1 k1 w
  obtain ⟨m, hm⟩ : ∃ m, m = nlang L S.toNat Ac r St := ⟨_, rfl⟩
  rw [← hm] at x2 hf1 hrev
  obtain ⟨a1, a2, a3, a4, a5⟩ := canR_of x1 x2 (by omega)
  have hNa := nv_of a4
  have hsa := hNa.stl
  have haa := hNa.acl
  -- the second turn
  rcases reverse_f L ((M.canN L m).length : Int) (ofSt (M.canS m)) (allE 0 (M.canN L m)) (memL (M.canA L m) 0) (by omega) (by omega) with ⟨k, _⟩ | ⟨_, r2, k4, k5, k6, _⟩
  · rw [a4] at k; cases k
  have hN2 := nv_of k5
  obtain ⟨G, hG, hG0⟩ := fam_rev (n := S.toNat) (E := E) (St := St) (Ac := Ac) a1 k4 (by omega) (fun q hq => by
    obtain ⟨x, y1, y2⟩ := M.can_reach x1 x2 q hq
    exact ⟨x, y1, fun w hw => by rw [y2 w hw, hrev, hl]⟩)
  have hf2 := detR_fam k5 (G := G) (by rw [Int.toNat_natCast]; exact hG) (by rw [Int.toNat_natCast]; exact hG0)
  have hl2 : nlang L (((M.canN L m).length : Nat) : Int).toNat (memL (M.canA L m) 0) r2 (ofSt (M.canS m)) = l := by
    funext w
    rw [nlang_rev hNa hN2 k4, Int.toNat_natCast, a3, hrev, List.reverse_reverse]
  rw [hl2] at hf2
  obtain ⟨b1, b2, b3, b4, b5⟩ := canR_of w1 w2 (by omega)
  have hNb := nv_of b4
  have hsb := hNb.stl
  have hab := hNb.acl
  have hst2 := hN2.stl
  have hac2 := hN2.acl
  rw [ancepslaw07_NondetTwice.l6_eq, ifB_of _ _ (by rfl), k3, bindD_some]
  simp only
  rw [determine_f _ _ _ _ _ (by omega) (by omega), bindD_some, hf1.1]
  simp only [canR]
  rw [ifB_not _ _ (by rfl), ifB_not _ _ (by rfl), a5, bindD_some]
  simp only
  rw [ifB_not _ _ (by rfl), ancepslaw07_NondetTwice.l6_eq, ifB_of _ _ (by rfl), k6, bindD_some]
  simp only
  rw [determine_f _ _ _ _ _ (by omega) (by omega), bindD_some, hf2.1]
  simp only [canR]
  rw [ifB_not _ _ (by rfl), ifB_not _ _ (by rfl), b5, bindD_some]
  simp only
  rw [ifB_not _ _ (by rfl), ancepslaw07_NondetTwice.l6_eq, ifB_not _ _ (by rfl), determine_f _ _ _ _ _ (by omega) (by omega), bindD_some, det_of2 b1 b2, M.can_lang w1 w2]
  have := canR_same (l := l) hf0.2
  simp only [canR] at this ⊢
  rw [ifB_of _ _ (by rfl), ifB_of _ _ (by rfl), this]; rfl
end Go.Proofs.C07
