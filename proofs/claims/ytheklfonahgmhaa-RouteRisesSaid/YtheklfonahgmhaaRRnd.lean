/- Code in a round of a range over a function: what the evaluator tells is so there too. -/
import Derived.Test.YtheklfonahgmhaaMachine4
import Derived.RangeFuncNested
set_option linter.unusedVariables false
set_option linter.unusedSimpArgs false
namespace Go.Proofs.R
open Go
section
variable {P : Program}
abbrev rfence (i : Nat) : Fence := Fence.wide.inRound i
theorem rowsIn_wide' {i n : Nat} {row : String} {args : Array Value} {w : World} {R : Value → World → Prop} (h : Rows P row args w R) : RowsIn (rfence i) n P row args w R := by
 intro c cs hroom
 obtain ⟨v, w', r, s⟩ := h c cs
 exact ⟨v, w', r, (stepsIn_wide (P := P)).2 s⟩
theorem oper_round (i n : Nat) {o : Oper} (hnd : ∀ c, o.op ≠ .defer c) {a : Act} {w : World} {K K' : Act → World → Prop} (hK : ∀ a w, K a w → K' a w) {Q : Exit → Act → World → Prop} (h : o.wp P a w K Q) : o.wpIn (rfence i) n P a w K' Q := by
 refine ⟨fun _ _ => trivial, ?_⟩
 rw [Oper.semAt_eq _ _ _ hnd]
 unfold Oper.wp at h
 generalize (execOp a.eval o).run P w = r at *
 cases r with
 | ok x w' =>
  cases x with
  | value v => exact hK _ _ h
  | skip => exact hK _ _ h
  | defer d => exact hK _ _ h
  | enter f args =>
   refine And.intro (fun hc => by cases hc) ?_
   refine CallsIn.mono (F := rfence i) (callsIn_wide.2 h) ?_
   intro e w'' hr
   cases e with
   | returned v => exact hK _ _ hr
   | panicked ch => exact hr
   | outgrown => exact hr
  | row row args =>
   refine And.intro (fun hc => by cases hc) ?_
   exact (rowsIn_wide' (i := i) h).mono fun v w'' hr => hK _ _ hr
  | _ => exact False.elim h
 | halt x w' =>
  cases x with
  | panic v => exact h
  | _ => exact False.elim h
theorem ops_round (i n : Nat) {ops : Array Oper} (hnd : ∀ (j : Nat) (o : Oper), ops[j]? = some o → ∀ c, o.op ≠ .defer c) {Q : Exit → Act → World → Prop} (hQ : ¬ LetsOut Q) : ∀ (l : List Nat) (a : Act) (w : World), wpOps P ops Q l a w → wpOpsIn (rfence i) n P ops Q l a w
 | [], a, w, h => h
 | j :: l, a, w, h => by
  unfold wpOps at h
  unfold wpOpsIn
  cases ho : ops[j]? with
  | none => rw [ho] at h; exact ops_round i n hnd hQ l a w h
  | some o =>
   rw [ho] at h
   simp only at h ⊢
   by_cases hw : Region.wanted o (yielded ops a.tmps) = true
   ·rw [if_pos hw] at h ⊢
    rcases h with h | h
    ·exact oper_round i n (hnd j o ho) (fun a w => ops_round i n hnd hQ l a w) h
    ·exact absurd h.2 hQ
   ·rw [if_neg hw] at h ⊢
    exact ⟨fun _ _ => trivial, ops_round i n hnd hQ l _ _ h⟩
theorem RegW.wpIn (i n : Nat) {ops : Array Oper} {draw : Bool} {Q : Exit → Act → World → Prop} {a : Act} {w : World} (hnd : ∀ (j : Nat) (o : Oper), ops[j]? = some o → ∀ c, o.op ≠ .defer c) (hQ : ¬ LetsOut Q) (h : RegW P ops draw Q a w) (id : Nat) : (Code.region id ops draw).wpIn (rfence i) n P Q a w := by
 cases draw with
 | false => exact wpIn_region (ops_round i n hnd hQ _ _ _ h)
 | true => exact wpIn_region_draw fun t => ops_round i n hnd hQ _ _ _ (h t)
end
def opNd (o : Oper) : Bool := match o.op with
 | .defer _ => false
 | _ => true
def codeNd : Code → Bool
 | .region _ ops _ => ops.toList.all opNd
 | .seq a b => codeNd a && codeNd b
 | .cond _ a b => codeNd a && codeNd b
 | .block _ b => codeNd b
 | .loop b => codeNd b
 | _ => true
theorem nd_of {ops : Array Oper} (h : ops.toList.all opNd = true) : ∀ (j : Nat) (o : Oper), ops[j]? = some o → ∀ c, o.op ≠ .defer c := by
 intro j o ho c hc
 have hm : o ∈ ops.toList := by
  rw [← Array.getElem?_toList] at ho
  exact List.mem_of_getElem? ho
 have := List.all_eq_true.1 h o hm
 unfold opNd at this
 rw [hc] at this
 cases this
section
variable {P : Program} {c : Ctx} {I : Interp c}
def LoopWpR (i n : Nat) (P : Program) (body : Code) (Q : Exit → Act → World → Prop) (a : Act) (w : World) : Prop :=
 ∀ (b : Frame) (k : List Item) (cs : List Frame), b.roundOf = (rfence i).round → (rfence i).fn b.fn → (rfence i).room (cs.length + 1 + n) →
  ∃ e a' w', Q e a' w' ∧ ArrivesIn (Machine.fenced P (rfence i)) P (lone (b.atR a (.code body :: .inLoop body :: k)) cs w) b k cs e a' w'
theorem LoopWpR.wp {i n : Nat} {body : Code} {Q : Exit → Act → World → Prop} {a : Act} {w : World} (h : LoopWpR i n P body Q a w) : (Code.loop body).wpIn (rfence i) n P Q a w := by
 intro b k cs hro hb hr
 obtain ⟨e, a', w', h1, h2⟩ := h b k cs hro hb hr
 exact ⟨e, a', w', h1, .of_steps (.one (fenced_calm hb hr rfl) stepR_loop) h2⟩
theorem LoopWpR.round {i n : Nat} {body : Code} {Q : Exit → Act → World → Prop} {a : Act} {w : World} (h : body.wpIn (rfence i) n P (Exit.then (LoopWpR i n P body Q) Q) a w) : LoopWpR i n P body Q a w := by
 intro b k cs hro hb hr
 obtain ⟨e, a₁, w₁, hq, harr⟩ := h b (.inLoop body :: k) cs hro hb hr
 cases e with
 | normal =>
  obtain ⟨e₂, a₂, w₂, hq₂, harr₂⟩ := hq b k cs hro hb hr
  exact ⟨e₂, a₂, w₂, hq₂, .of_steps (StepsIn.trans harr (.one (fenced_calm hb hr rfl) stepR_inLoop)) harr₂⟩
 | exit id => exact ⟨_, a₁, w₁, hq, .pass (x := .inLoop body) rfl (fun _ _ => .inl (by simp)) harr⟩
 | goto l => exact ⟨_, a₁, w₁, hq, .pass (x := .inLoop body) rfl (fun _ _ => .inl (by simp)) harr⟩
 | ret => exact ⟨_, a₁, w₁, hq, .pass (x := .inLoop body) rfl (fun _ _ => .inl (by simp)) harr⟩
 | panic ch => exact ⟨_, a₁, w₁, hq, .pass (x := .inLoop body) rfl (fun _ _ => .inl (by simp)) harr⟩
 | outgrown => exact ⟨_, a₁, w₁, hq, .pass (x := .inLoop body) rfl (fun _ _ => .inl (by simp)) harr⟩
structure Snd2R (i n : Nat) (P : Program) (c : Ctx) (I : Interp c) : Prop where
 loop : ∀ {ρ : Type} (f : FuncId) (fn : Func) (body : Code) (st : St) (K : Ex → St → Option ρ) (r : ρ) (F : Fr) (a : Act) (w : World) (Q : Exit → Act → World → Prop),
  lkp c.fn f = some fn → codeOk body = true → codeNd body = true → ¬ LetsOut Q → I.loop f body st K = some r → Good F fn.ntmps st a w → KOk F fn.ntmps r K Q → LoopWpR i n P body Q a w
 join : ∀ {ρ : Type} (f : FuncId) (fn : Func) (code : Code) (st : St) (K : Ex → St → Option ρ) (r : ρ) (F : Fr) (a : Act) (w : World) (Q : Exit → Act → World → Prop),
  lkp c.fn f = some fn → codeOk code = true → codeNd code = true → ¬ LetsOut Q → I.join f code st K = some r → Good F fn.ntmps st a w → KOk F fn.ntmps r K Q → code.wpIn (rfence i) n P Q a w
theorem toLoopR_ok {i n : Nat} (hR : Snd2R i n P c I) {f : FuncId} {fn : Func} (hf : lkp c.fn f = some fn) {body : Code} (hc : codeOk body = true) (hn : codeNd body = true) {ρ : Type} {K : Ex → St → Option ρ} {r : ρ} {st : St} {F : Fr} {a : Act} {w : World} {Q : Exit → Act → World → Prop} (hQ : ¬ LetsOut Q)
  (h : toLoop c I f body K st = some r) (hg : Good F fn.ntmps st a w) (hK : KOk F fn.ntmps r K Q) : LoopWpR i n P body Q a w := by
 unfold toLoop at h
 split at h
 ·split at h
  ·rename_i st' hcan
   exact hR.loop f fn body st' K r F a w Q hf hc hn hQ h (canon_ok hcan hg) hK
  ·cases h
 ·cases h
theorem evalCR_ok {i n : Nat} (hE : EnvOk P c) (hI : Snd P c I) (hR : Snd2R i n P c I) {f : FuncId} {fn : Func} (hf : lkp c.fn f = some fn) {ρ : Type} {r : ρ} {F : Fr} : ∀ (code : Code) (st : St) (K : Ex → St → Option ρ) (a : Act) (w : World) (Q : Exit → Act → World → Prop), codeOk code = true → codeNd code = true → ¬ LetsOut Q →
  evalC c I f fn.ntmps code st K = some r → Good F fn.ntmps st a w → KOk F fn.ntmps r K Q → code.wpIn (rfence i) n P Q a w
 | .skip, st, K, a, w, Q, _, _, _, h, hg, hK => wpIn_skip (hK .normal _ _ _ hg h)
 | .label l, st, K, a, w, Q, _, _, _, h, hg, hK => wpIn_label (hK .normal _ _ _ hg h)
 | .exit id, st, K, a, w, Q, _, _, _, h, hg, hK => wpIn_exit (hK (.exit id) _ _ _ hg h)
 | .ret, st, K, a, w, Q, _, _, _, h, hg, hK => wpIn_ret (hK .ret _ _ _ hg h)
 | .goto l, st, K, a, w, Q, _, _, _, h, hg, hK => by cases h
 | .scope b, st, K, a, w, Q, _, _, _, h, hg, hK => by cases h
 | .rangeFunc _ _ _ _, st, K, a, w, Q, _, _, _, h, hg, hK => by cases h
 | .refuse _, st, K, a, w, Q, _, _, _, h, hg, hK => by cases h
 | .region id ops draw, st, K, a, w, Q, hc, hn, hQ, h, hg, hK => by
  simp only [evalC] at h
  split at h
  ·split at h
   ·rename_i st' hcan
    exact hR.join f fn _ st' K r F a w Q hf hc hn hQ h (canon_ok hcan hg) hK
   ·cases h
  ·refine (region_w hE hI ?_ h hg (fun s' a w hg' hk => hK .normal s' a w hg' hk)).wpIn i n (nd_of hn) hQ id
   intro hd; subst hd; simpa [codeOk] using hc
 | .seq x y, st, K, a, w, Q, hc, hn, hQ, h, hg, hK => by
  simp only [codeOk, Bool.and_eq_true] at hc
  simp only [codeNd, Bool.and_eq_true] at hn
  refine wpIn_seq (evalCR_ok hE hI hR hf x st _ a w _ hc.1 hn.1 hQ h hg ?_)
  intro ex st' a' w' hg' hk
  cases ex with
  | normal => exact evalCR_ok hE hI hR hf y st' K a' w' Q hc.2 hn.2 hQ hk hg' hK
  | exit id => exact hK (.exit id) _ _ _ hg' hk
  | ret => exact hK .ret _ _ _ hg' hk
 | .cond x t e, st, K, a, w, Q, hc, hn, hQ, h, hg, hK => by
  simp only [codeOk, Bool.and_eq_true] at hc
  simp only [codeNd, Bool.and_eq_true] at hn
  simp only [evalC] at h
  split at h
  ·rename_i g hgv
   have hx : a.eval x = .bool g := by
    obtain ⟨S, β, Om, _, hs, _, _, _, _⟩ := hg
    exact rel_bool (gv_rel hE hs hgv)
   refine wpIn_cond hx ?_
   cases g with
   | true => exact evalCR_ok hE hI hR hf t st K a w Q hc.1 hn.1 hQ h hg hK
   | false => exact evalCR_ok hE hI hR hf e st K a w Q hc.2 hn.2 hQ h hg hK
  ·cases h
 | .block id b, st, K, a, w, Q, hc, hn, hQ, h, hg, hK => by
  refine wpIn_block (evalCR_ok hE hI hR hf b st _ a w _ hc hn ?_ h hg ?_)
  ·rintro ⟨a, w, hl⟩; exact hQ ⟨a, w, hl⟩
  intro ex st' a' w' hg' hk
  cases ex with
  | normal => exact hK .normal _ _ _ hg' hk
  | exit i =>
   simp only [blockK] at hk
   show (if i = id then Q .normal a' w' else Q (.exit i) a' w')
   cases hb : Nat.beq i id with
   | true => rw [hb] at hk; rw [if_pos (Nat.eq_of_beq_eq_true hb)]; exact hK .normal _ _ _ hg' hk
   | false =>
    rw [hb] at hk
    rw [if_neg (by rintro rfl; simp at hb)]
    exact hK (.exit i) _ _ _ hg' hk
  | ret => exact hK .ret _ _ _ hg' hk
 | .loop b, st, K, a, w, Q, hc, hn, hQ, h, hg, hK => (toLoopR_ok (body := b) hR hf hc hn hQ h hg hK).wp
theorem step_sndR {i n : Nat} (hE : EnvOk2 P c) (hI : Snd2 P c I) (hR : Snd2R i n P c I) : Snd2R i n P c (stepI c I) := by
 refine ⟨?_, ?_⟩
 ·intro ρ f fn body st K r F a w Q hf hc hn hQ h hg hK
  have h : stepLoop c I f body st K = some r := h
  unfold stepLoop at h
  rw [hf] at h; simp only at h
  refine LoopWpR.round (evalCR_ok hE.env hI.snd hR hf body st _ a w _ hc hn hQ h hg ?_)
  intro ex st' a' w' hg' hk
  cases ex with
  | normal => exact toLoopR_ok hR hf hc hn hQ hk hg' hK
  | exit id => exact hK (.exit id) _ _ _ hg' hk
  | ret => exact hK .ret _ _ _ hg' hk
 ·intro ρ f fn code st K r F a w Q hf hc hn hQ h hg hK
  have h : stepJoin c I f code st K = some r := h
  unfold stepJoin at h
  rw [hf] at h; simp only at h
  cases code with
  | region id ops draw =>
   refine (region_w hE.env hI.snd ?_ h hg (fun s' a w hg' hk => hK .normal s' a w hg' hk)).wpIn i n (nd_of hn) hQ id
   intro hd; subst hd; simpa [codeOk] using hc
  | _ => cases h
theorem E_sndR {i n : Nat} (hE : EnvOk2 P c) : ∀ k, Snd2R i n P c (E c k)
 | 0 => ⟨fun _ _ _ _ _ _ _ _ _ _ _ _ _ _ h => (by cases h), fun _ _ _ _ _ _ _ _ _ _ _ _ _ _ h => (by cases h)⟩
 | k + 1 => step_sndR hE (E_snd hE k) (E_sndR hE k)
theorem Einf_snd (hE : EnvOk2 P c) : Snd2 P c (Einf c) := by
 refine ⟨⟨?_, ?_⟩, ?_, ?_⟩
 ·intro f args r hsp h
  obtain ⟨n, hn⟩ := (Einf_call_iff c).1 h
  exact (E_snd hE n).snd.call f args r hsp hn
 ·intro f sh args r hsp h
  obtain ⟨n, hn⟩ := (Einf_call_iff c).1 h
  exact (E_snd hE n).snd.scall f sh args r hsp hn
 ·intro ρ f fn body st K r F a w Q hf hc h hg hK
  obtain ⟨n, hn⟩ := (Einf_loop_iff c).1 h
  exact (E_snd hE n).loop f fn body st K r F a w Q hf hc hn hg hK
 ·intro ρ f fn body st K r F a w Q hf hc h hg hK
  obtain ⟨n, hn⟩ := (Einf_join_iff c).1 h
  exact (E_snd hE n).join f fn body st K r F a w Q hf hc hn hg hK
theorem Einf_sndR {i n : Nat} (hE : EnvOk2 P c) : Snd2R i n P c (Einf c) := by
 refine ⟨?_, ?_⟩
 ·intro ρ f fn body st K r F a w Q hf hc hnd hQ h hg hK
  obtain ⟨k, hn⟩ := (Einf_loop_iff c).1 h
  exact (E_sndR hE k).loop f fn body st K r F a w Q hf hc hnd hQ hn hg hK
 ·intro ρ f fn body st K r F a w Q hf hc hnd hQ h hg hK
  obtain ⟨k, hn⟩ := (Einf_join_iff c).1 h
  exact (E_sndR hE k).join f fn body st K r F a w Q hf hc hnd hQ hn hg hK
theorem entry_good {nt : Nat} {args : List AV} (hle' : args.length ≤ nt) (hnt : nt ≤ rootBase) {w : World} {Sf : CellSet} {vs : Array Value} (hSf : ∀ b i, Sf b i → b < w.heap.size)
  (hr : RelAVs (Fr.rp ⟨w, fun _ => False, Sf, noRoot⟩ Sf noBase (fun _ => none) w) args vs.toList) :
  Good ⟨w, fun _ => False, Sf, noRoot⟩ nt ⟨initSlots args 0, []⟩ { tmps := vs ++ Array.replicate (nt - vs.size) undef, defers := [] } w := by
 have hlen : vs.size = args.length := by have := RelAVs_len hr; simpa using this
 refine ⟨Sf, noBase, fun _ => none, ?_, ?_, view_nil, fun n e e' t xss s h => (by cases h), ?_, rfl⟩
 ·constructor
  ·rfl
  ·rfl
  ·rfl
  ·exact Nat.le_refl _
  ·exact Nat.le_refl _
  ·exact fun _ _ _ => rfl
  ·intro n o hO; cases hO
  ·intro n o b off hO; cases hO
  ·intro n m o o' b x y hO; cases hO
  ·exact fun _ _ h => h
  ·exact fun _ _ h => .inl h
  ·exact hSf
  ·intro b i n o off _ hO; cases hO
  ·intro n e t xs b off i hO; cases hO
 ·intro d v hd
  obtain ⟨j, h1, h2⟩ := initSlots_get hd
  obtain ⟨u, h3, h4⟩ := RelAVs_get hr h2
  have : d = j := by omega
  subst this
  have hlt : d < vs.size := by
   have := (List.getElem?_eq_some_iff.1 h3).1; simpa using this
  have hd' : (vs ++ Array.replicate (nt - vs.size) undef)[d]? = some u := by
   rw [Array.getElem?_append_left hlt]
   simpa using h3
  have : (vs ++ Array.replicate (nt - vs.size) undef).getD d undef = u := by simp [hd']
  show RelAV _ v (slotV _ (vs ++ Array.replicate (nt - vs.size) undef) d)
  rw [slotV_lt (by omega), this]; exact h4
 ·show (vs ++ Array.replicate (nt - vs.size) undef).size = nt
  simp; omega
theorem oper_q {o : Oper} {a : Act} {w : World} {K K' : Act → World → Prop} {Q Q' : Exit → Act → World → Prop} (hK : ∀ a w, K a w → K' a w) (hp : ∀ ch a w, Q (.panic ch) a w → Q' (.panic ch) a w) (hl : LetsOut Q → LetsOut Q') (h : o.wp P a w K Q) : o.wp P a w K' Q' := by
 unfold Oper.wp at h ⊢
 generalize (execOp a.eval o).run P w = r at *
 cases r with
 | ok x w' =>
  cases x with
  | value v => exact hK _ _ h
  | skip => exact hK _ _ h
  | defer d => exact hK _ _ h
  | enter f args =>
   refine Calls.mono (R := _) h ?_
   intro e w'' hr
   cases e with
   | returned v => exact hK _ _ hr
   | panicked ch => exact hp _ _ _ hr
   | outgrown => exact hl hr
  | row row args => exact Rows.mono h fun v w'' hr => hK _ _ hr
  | _ => exact False.elim h
 | halt x w' =>
  cases x with
  | panic v => exact hp _ _ _ h
  | _ => exact False.elim h
theorem ops_more {ops ops' : Array Oper} {Q : Exit → Act → World → Prop} {rest : List Nat} : ∀ (l : List Nat), (∀ j ∈ l, ∃ o, ops'[j]? = some o ∧ ops[j]? = some o ∧ o.guard = none) → ∀ (a : Act) (w : World), wpOps P ops' (Exit.then (wpOps P ops Q rest) Q) l a w → wpOps P ops Q (l ++ rest) a w
 | [], _, a, w, h => h
 | j :: l, hj, a, w, h => by
  obtain ⟨o, h1, h2, h3⟩ := hj j List.mem_cons_self
  unfold wpOps at h
  rw [List.cons_append]
  unfold wpOps
  rw [h1] at h
  rw [h2]
  simp only at h ⊢
  rw [if_pos (by unfold Region.wanted; rw [h3])] at h ⊢
  rcases h with h | h
  ·exact .inl (oper_q (fun a w hk => ops_more l (fun j hm => hj j (List.mem_cons_of_mem _ hm)) a w hk) (fun _ _ _ h => h) (fun h => h) h)
  ·exact .inr ⟨h.1, h.2⟩
def nK {ρ : Type} (L : St → Option ρ) (ex : Ex) (st : St) : Option ρ := match ex with
 | .normal => L st
 | _ => none
theorem wp_eval (hE : EnvOk P c) (hI : Snd2 P c I) {f : FuncId} {fn : Func} (hf : lkp c.fn f = some fn) {ρ : Type} {r : ρ} {F : Fr} {x : Code} {st : St} {L : St → Option ρ} {a : Act} {w : World} {K : Act → World → Prop} {Q : Exit → Act → World → Prop} (hc : codeOk x = true)
  (h : evalC c I f fn.ntmps x st (nK L) = some r) (hg : Good F fn.ntmps st a w) (hy : ∀ st' a' w', Good F fn.ntmps st' a' w' → L st' = some r → K a' w') : x.wp P (Exit.then K Q) a w := by
 refine evalC_ok hE hI hf x st (nK L) a w _ hc h hg ?_
 intro ex st' a' w' hg' hk
 cases ex with
 | normal => exact hy st' a' w' hg' hk
 | exit id => cases hk
 | ret => cases hk
end
end Go.Proofs.R
