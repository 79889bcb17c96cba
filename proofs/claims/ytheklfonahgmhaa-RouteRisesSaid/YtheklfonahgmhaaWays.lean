/- A round of the range over slices.Backward in dag.ways. -/
import Derived.Test.YtheklfonahgmhaaC10WB
import Derived.Test.YtheklfonahgmhaaC10WE
import Derived.Test.YtheklfonahgmhaaRRnd
import Derived.RangeFuncBox
import Derived.RangeFuncLeaves
import Derived.RangeFuncCalls
import Derived.Shelf.Abstract
import Derived.WalkKit
import Derived.OwnWalkIn
import Derived.TacticsInMore
import Derived.LoopNIn
import Derived.LoopIn
import Derived.RangeFuncFrom
set_option linter.unusedVariables false
set_option linter.unusedSimpArgs false
section
set_option maxRecDepth 100000
set_option linter.unusedVariables false
namespace Go.Proofs.C10W
open Go Go.Proofs.R
def seqL : Code → Code | .seq a _ => a | c => c
def seqR : Code → Code | .seq _ b => b | c => c
def blkB : Code → Code | .block _ b => b | c => c
def rfB : Code → Code | .rangeFunc _ _ _ b => b | c => c
def rfA : Code → Code | .rangeFunc _ _ a _ => a | c => c
def lpB : Code → Code | .loop b => b | c => c
noncomputable def c0 : Code := Try.f67.body.getD .skip
noncomputable def r0 : Code := seqL c0
noncomputable def r1 : Code := seqL (seqR c0)
noncomputable def r2 : Code := seqL (seqR (seqR c0))
noncomputable def r3 : Code := seqL (seqL (seqR (seqR (seqR c0))))
noncomputable def rf : Code := blkB (seqR (seqL (seqR (seqR (seqR c0)))))
noncomputable def r11 : Code := seqL (seqR (seqR (seqR (seqR c0))))
noncomputable def rbody : Code := rfB rf
noncomputable def rass : Code := rfA rf
noncomputable def lbody : Code := lpB (blkB (seqR (blkB rbody)))
theorem body_eq : Try.f67.body = some (.seq r0 (.seq r1 (.seq r2 (.seq (.seq r3 (.block 0 (.rangeFunc (.tmp 18) #[19, 20] rass rbody))) (.seq r11 .ret))))) := by kernel_rfl
abbrev arcT : Ty := .pair (.int .i64) (.pair (.int .i64) (.int .i64))
def rndK (ex : Ex) (st : St) : Option (List Int) :=
 match ex with
 | .normal => match lkp st.σ 2097152 with
  | some (.one (.pref [.row j] 0)) => match lkp st.O j with
   | some (.row e t xs false) => bif Nat.beq e 2 then castV (.sl t) (.sl (.int .i64)) xs else none
   | _ => none
  | _ => none
 | _ => none
def rndSt (n : Int) (arcs : List (Int × Int × Int)) (out : List Int) (m : Int) (l : List Int) : St :=
 ⟨[(1, .one (.pref [.v (.int .i64) n, .v (.sl arcT) arcs] 0)), (3, .one (.pref [.row 7] 0)), (4, .one (.v (.int .i64) m)), (5, .one (.v (.sl (.int .i64)) l)), (2097152, .one (.pref [.row 7] 0))], [(7, .row 2 (.int .i64) out false)]⟩
noncomputable def rnd (n : Int) (arcs : List (Int × Int × Int)) (out : List Int) (m : Int) (l : List Int) : Option (List Int) :=
 evalC ctx (Einf ctx) 67 46 rbody (rndSt n arcs out m l) rndK
noncomputable def l7 (n : Int) (arcs : List (Int × Int × Int)) (m : Int) (l l' : List Int) (len i : Int) (out : List Int) : Option (List Int) :=
 (Einf ctx).loop 67 lbody ⟨[(1, .one (.pref [.v (.int .i64) n, .v (.sl arcT) arcs] 0)), (3, .one (.pref [.row 7] 0)), (4, .one (.v (.int .i64) m)), (5, .one (.v (.sl (.int .i64)) l)),
  (21, .one (.v (.sl (.int .i64)) l')), (22, .one (.v (.int .i64) len)), (23, .one (.v (.int .i64) i)), (2097152, .one (.pref [.row 7] 0))], [(7, .row 2 (.int .i64) out false)]⟩ (blockK 2 (blockK 1 rndK))
theorem rnd_eq (n : Int) (arcs : List (Int × Int × Int)) (out : List Int) (m : Int) (l : List Int) : rnd n arcs out m l = l7 n arcs m l l (l.length : Nat) 0 out := by kernel_rfl
theorem l7_eq (n : Int) (arcs : List (Int × Int × Int)) (m : Int) (l l' : List Int) (len i : Int) (out : List Int) : l7 n arcs m l l' len i out =
 ifB (decide (i < len))
  (bindD (ixAt l' i) fun t1 => bindD (ixAt out m) fun t2 => bindD (ixAt out m) fun t3 => bindD (ixAt arcs t1) fun t4 => bindD (ixAt out t4.2.1) fun t5 => bindD (ixAt out t4.2.1) fun t6 =>
  bindD (dag_capped.f t3 t6) fun t7 => bindD (ixAt out m) fun t8 => bindD (ixAt out m) fun t9 => l7 n arcs m l l' len (Go.IntKind.wrap Go.IntKind.i64 (i + 1)) (setRow out m t7.1))
  (some out) := (Einf_loop ctx 67 lbody _ _).trans (by kernel_rfl)
end Go.Proofs.C10W
end
section
namespace Go.Proofs.C10W
open Go Go.Proofs.R
open Go.RowKit Go.Shelf
attribute [local go_sem] Oper.semAt_some
def upto {α : Type} (f : Nat → α) (k : Nat) : List α := (List.range k).map f
theorem upto_succ {α : Type} (f : Nat → α) (k : Nat) : upto f (k + 1) = upto f k ++ [f k] := by simp [upto, List.range_succ]
theorem upto_length {α : Type} (f : Nat → α) (k : Nat) : (upto f k).length = k := by simp [upto]
def backF (len j : Nat) : Nat := len - 1 - j
structure KeepB (n Br : Nat) (W W' : World) : Prop where
 size : W.heap.size ≤ W'.heap.size
 same : ∀ k, k < n → k ≠ Br → W'.heap[k]? = W.heap[k]?
theorem KeepB.refl (n Br : Nat) (W : World) : KeepB n Br W W := ⟨Nat.le_refl _, fun _ _ _ => rfl⟩
theorem KeepB.trans {n Br : Nat} {A B C : World} (h : KeepB n Br A B) (k : KeepB n Br B C) : KeepB n Br A C := ⟨Nat.le_trans h.size k.size, fun i h1 h2 => (k.same i h1 h2).trans (h.same i h1 h2)⟩
theorem KeepB.cell {n Br : Nat} {A B : World} (h : KeepB n Br A B) {p : Addr} (hb : p.block < n) (hr : p.block ≠ Br) : B.cell? p = A.cell? p := World.cell?_of_block (h.same p.block hb hr)
set_option maxRecDepth 100000 in
set_option maxHeartbeats 1000000 in
theorem back_call (A : Option Addr) (len cap : Nat) (w : World) :
  Calls Try.prog 77 #[.slice A len cap] w fun e w' => e = .returned (.func (.func 91) #[] #[.pointer (some ⟨w.heap.size, 0, none⟩)]) ∧ w' = w.alloc (.cells #[.slice A len cap] 37) := by
 refine callsIn_wide.1 (callsIn_of_wp (F := Fence.wide) (n := 3) Try.func77 rfl trivial ?_ rfl)
 simp only [Try.ntmps77, List.size_toArray, List.length_cons, List.length_nil, Nat.reduceAdd, Nat.reduceSub, Array.replicate_succ, Array.replicate_zero, List.push_toArray, List.append_toArray, List.nil_append, List.cons_append]
 gi_wp2
 go_ret
 exact ⟨rfl, rfl⟩
set_option maxRecDepth 100000 in
set_option maxHeartbeats 4000000 in
theorem back1_in (F : Fence) (n : Nat) (h91 : F.fn 91) (hro : F.round = none) (hn : 1 ≤ n) (l Bs n₀ Br b off len cap : Nat) (vs : List Value) (hvl : vs.length = len) (hreach : len * 8 ≤ 140737488351232) (hlen : 0 < len → b < n₀ ∧ b ≠ Br) (hbs : Bs < n₀ ∧ Bs ≠ Br) (J Jx : List (Fin len) → World → Prop)
  (A : Option Addr) (hA : 0 < len → A = some ⟨b, off, none⟩)
  (hY : ∀ pre x W, J pre W → pre.length < len → YieldAt F (n - 1) Try.prog l #[.int .i64 (x.val : Int), vs[x.val]?.getD undef] W fun e W' =>
   (e = .returned (.bool true) ∧ J (pre ++ [x]) W' ∧ KeepB n₀ Br W W') ∨ (e = .returned (.bool false) ∧ Jx (pre ++ [x]) W'))
  (W : World) (hBs : W.cell? ⟨Bs, 0, none⟩ = some (.slice A len cap)) (hc : ∀ j, j < len → W.cell? ⟨b, off + j, none⟩ = some (vs[j]?.getD undef)) (h0 : J [] W) :
  CallsIn F n Try.prog 91 #[.func (.yield l) #[] #[], .pointer (some ⟨Bs, 0, none⟩)] W fun e W' => (∃ v, e = .returned v) ∧
   ((∃ ys, ys.map Fin.val = upto (backF len) len ∧ J ys W') ∨ (∃ pre, True ∧ Jx pre W')) := by
 refine callsIn_of_wp Try.func91 rfl h91 ?_ hro
 simp only [Try.ntmps91, List.size_toArray, List.length_cons, List.length_nil, Nat.reduceAdd, Nat.reduceSub, Array.replicate_succ, Array.replicate_zero, List.push_toArray, List.append_toArray, List.nil_append, List.cons_append]
 have r1 : IntKind.i64.wrap ((len : Int) - 1) = (len : Int) - 1 := by rw [IntKind.wrap_i64]; omega
 gi_wp2
 gi_loopw [3] (fun i wr => ∃ k : Nat, k ≤ len ∧ i = .int .i64 ((len : Int) - 1 - k) ∧ (∃ pre : List (Fin len), pre.map Fin.val = upto (backF len) k ∧ J pre wr) ∧ KeepB n₀ Br W wr)
  (fun i _ => (intOf i + 1).toNat)
 case atStart => exact ⟨0, Nat.zero_le _, by simp, ⟨[], rfl, h0⟩, KeepB.refl _ _ _⟩
 case round =>
  obtain ⟨k, hk, rfl, ⟨pre, hpre, hJs⟩, hnx⟩ := hrel
  have hprel : pre.length = k := by have := congrArg List.length hpre; rw [List.length_map, upto_length] at this; exact this
  have hBs' : wr.cell? ⟨Bs, 0, none⟩ = some (.slice A len cap) := (hnx.cell (p := ⟨Bs, 0, none⟩) hbs.1 hbs.2).trans hBs
  by_cases hlt : k < len
  ·obtain ⟨ix, hix⟩ : ∃ ix, ix = len - 1 - k := ⟨_, rfl⟩
   have eix : (len : Int) - 1 - (k : Int) = (ix : Int) := by omega
   have hb := hlen (by omega)
   have hA' := hA (by omega)
   have hixl : ix < len := by omega
   have hixl' : (ix : Int) < (len : Int) := by omega
   have hix0 : (0 : Int) ≤ (ix : Int) := by omega
   subst hA'
   rw [eix]
   have hfx : backF len k = ix := by unfold backF; rw [← hix]
   obtain ⟨v, hv⟩ : ∃ v, v = vs[ix]?.getD undef := ⟨_, rfl⟩
   have hcx : wr.cell? ⟨b, off + ix, none⟩ = some v := by rw [hv]; exact (hnx.cell (p := ⟨b, off + ix, none⟩) hb.1 hb.2).trans (hc ix hixl)
   obtain ⟨fn, tmps, assign, body, hy, hR⟩ := hY _ ⟨ix, hixl⟩ wr hJs (by rw [hprel]; exact hlt)
   dsimp only at hy
   rw [← hv] at hy
   have r2 : IntKind.i64.wrap ((ix : Int) - 1) = (ix : Int) - 1 := by rw [IntKind.wrap_i64]; omega
   have e2 : Hid ((ix : Int) - 1 = (len : Int) - 1 - ((k + 1 : Nat) : Int)) := by show _ = _; omega
   have hpn : Hid ((pre ++ [⟨ix, hixl⟩] : List (Fin len)).map Fin.val = upto (backF len) (k + 1)) := by
    show _ = _
    rw [upto_succ, hfx, List.map_append, hpre]; rfl
   clear hfx hv hix eix hpre hprel
   gi_wp2
   refine hR.mono ?_
   rintro e W3 (⟨rfl, hJ3, hk3⟩ | ⟨rfl, hJx3⟩)
   ·gi_wp2
    go_roundw
    case rel => exact ⟨k + 1, by omega, by have e2' : (ix : Int) - 1 = (len : Int) - 1 - ((k + 1 : Nat) : Int) := e2; rw [← e2'], ⟨_, hpn, hJ3⟩, hnx.trans hk3⟩
    case measure => simp [intOf]
   ·gi_wp2
    refine bodyPost_ret (results_none rfl _ _ _) rfl ?_
    exact ⟨⟨_, rfl⟩, .inr ⟨_, trivial, hJx3⟩⟩
  ·obtain rfl : k = len := by omega
   have hpre' : Hid (pre.map Fin.val = upto (backF k) k) := hpre
   clear hpre hprel
   have e3 : (k : Int) - 1 - (k : Int) = -1 := by omega
   rw [e3]
   gi_wp2
   go_end0
   exact ⟨⟨_, rfl⟩, .inl ⟨_, hpre', hJs⟩⟩
end Go.Proofs.C10W
end
section
namespace Go.Proofs.C10W
open Go Go.Proofs.R
open Go.RowKit
set_option linter.unusedVariables false
theorem range_back {n : Nat} {P : Program} {g : Operand} {ps : Array Tmp} {assign body : Code} {Q : Exit → Act → World → Prop} {a : Act} {w : World} {α : Type} {len : Nat}
  {gf : Nat} {lb : Array Value} (hg : a.eval g = .func (.func gf) #[] lb) (eg : ∀ args w, (callFunc gf args).run P w = .ok (.enter gf args) w)
  (encs : α → Array Value) (hps : ∀ x, (encs x).size = ps.size) (S : List α → Prop) (Kp : World → World → Prop) (hKt : ∀ {A B C : World}, Kp A B → Kp B C → Kp A C)
  (hKp : ∀ W l o o', w.heap.size ≤ l → W.heap[l]? = some o → o.isCells = false → Kp W (W.putObj l o'))
  (hseq : ∀ (l : Nat) (J Jx : List α → World → Prop) (W : World), w.heap.size ≤ W.heap.size → (∀ k, k < w.heap.size → W.heap[k]? = w.heap[k]?) →
   (∀ pre x W1, J pre W1 → pre.length < len → YieldAt Fence.wide (n - 1 - 1) P l (encs x) W1 fun e W' => (e = .returned (.bool true) ∧ J (pre ++ [x]) W' ∧ Kp W1 W') ∨ (e = .returned (.bool false) ∧ Jx (pre ++ [x]) W')) → J [] W →
   CallsIn Fence.wide (n - 1) P gf (#[.func (.yield l) #[] #[]] ++ lb) W fun e W' => (∃ v, e = .returned v) ∧ ((∃ xs, S xs ∧ J xs W') ∨ (∃ pre, Jx pre W')))
  (I : List α → World → Prop) (hIa : ∀ s W o, I s W → o.isCells = false → I s (W.alloc o))
  (hIp : ∀ s W l o o', I s W → w.heap.size ≤ l → W.heap[l]? = some o → o.isCells = false → I s (W.putObj l o')) (h0 : I [] w) (a1 : α → Act)
  (hassign : ∀ (l : Nat) (x : α) (W : World) (K : Act → World → Prop), K (a1 x) W →
   assign.wpIn (rfence l) (n - 1 - 1) P (Exit.then K (fun _ _ _ => False)) { tmps := (ps.zip (encs x)).foldl (fun t (p, v) => t.setIfInBounds p v) a.tmps, defers := [] } W)
  (hbody : ∀ (l : Nat) (pre : List α) (x : α) (W : World), I pre W → pre.length < len → body.wpIn (rfence l) (n - 1 - 1) P (fun e _ W' => e = .normal ∧ KeepsOthers W W' ∧ Kp W W' ∧ I (pre ++ [x]) W') (a1 x) W)
  (hdone : ∀ (D : Nat) (xs : List α) (W : World), w.heap.size ≤ D → S xs → I xs W → W.heap[D]? = some (.deferred (some [])) → Q .normal { a with defers := { target := .collected D, args := #[] } :: a.defers } W) :
  (Code.rangeFunc g ps assign body).wpIn Fence.wide n P Q a w := by
 refine wpIn_rangeFunc ?_
 intro fn hfn
 rw [show Fence.wide.round = none from rfl]
 obtain ⟨rec, hrec⟩ : ∃ rec : LoopState → Option Code → Loop, rec = fun st pe => { state := st, pending := pe, fn, tmps := a.tmps, params := ps, assign, body, defers := w.heap.size } := ⟨_, rfl⟩
 obtain ⟨W1, hW1⟩ : ∃ W1, (w.alloc (.deferred (some []))).alloc (.loop (rec .ready none)) = W1 := ⟨_, rfl⟩
 have hL1 : W1.heap[w.heap.size + 1]? = some (.loop (rec .ready none)) := by
  rw [← hW1]; have := World.alloc_heap_new (w.alloc (.deferred (some []))) (.loop (rec .ready none)); rwa [World.size_alloc] at this
 have hold : ∀ k, k < w.heap.size + 1 → W1.heap[k]? = (w.alloc (.deferred (some []))).heap[k]? := by
  intro k hk; rw [← hW1]; exact Below.heap_alloc _ _ _ (by rw [World.size_alloc]; exact hk)
 have hK1 : W1.heap[w.heap.size]? = some (.deferred (some [])) := (hold _ (Nat.lt_succ_self _)).trans (World.alloc_heap_new w _)
 have hsz1 : w.heap.size ≤ W1.heap.size := by have := (Array.getElem?_eq_some_iff.1 hK1).1; omega
 have hsame1 : ∀ k, k < w.heap.size → W1.heap[k]? = w.heap[k]? := fun k hk => (hold k (by omega)).trans (Below.heap_alloc _ _ _ hk)
 have hI1 : I [] W1 := by rw [← hW1]; exact hIa _ _ _ (hIa _ _ _ h0 rfl) rfl
 refine ⟨w.heap.size + 1, [{ target := .collected w.heap.size, args := #[] }], W1, { target := .fn (.func gf) lb, args := #[.func (.yield (w.heap.size + 1)) #[] #[]] }, W1, gf,
  #[.func (.yield (w.heap.size + 1)) #[] #[]] ++ lb, W1, ?_, ?_, ?_, ?_, (fun hc => by cases hc), ?_⟩
 ·rw [← hW1, hrec]; exact run_enterLoop_outer _ _ _ _ _
 ·simp only [resolve, hg]
  simp [go_sem]
 ·intro f' _; trivial
 ·simp [invoke, go_sem, eg]
 refine (hseq (w.heap.size + 1)
  (fun pre W => I pre W ∧ W.heap[w.heap.size + 1]? = some (.loop (rec .ready none)) ∧ W.heap[w.heap.size]? = some (.deferred (some []))) (fun _ _ => False) W1 hsz1 hsame1 ?_ ⟨hI1, hL1, hK1⟩).mono ?_
 ·-- a round
  rintro pre x W ⟨hi, hl, hk⟩ hlen
  have hlt : w.heap.size + 1 < W.heap.size := (Array.getElem?_eq_some_iff.1 hl).1
  have hy := run_yield (P := P) (args := encs x) hl (by rw [hrec]; exact hps x)
  rw [hrec] at hy
  refine ⟨fn, _, assign, body, hy, roundIn_of_wpIn hfn (hassign _ x W _ ⟨_, run_beginRound hl (by rw [hrec]), ?_⟩)⟩
  have hl2 : (W.putObj (w.heap.size + 1) (.loop { rec .ready none with state := .busy })).heap[w.heap.size + 1]? = some (.loop { rec .ready none with state := .busy }) := World.putObj_heap_same hlt
  have hk2 : (W.putObj (w.heap.size + 1) (.loop { rec .ready none with state := .busy })).heap[w.heap.size]? = some (.deferred (some [])) := (World.putObj_heap_other (by omega)).trans hk
  have hw2 := hKp W (w.heap.size + 1) _ (.loop { rec .ready none with state := .busy }) (by omega) hl rfl
  refine wpIn_mono (hbody _ pre x _ (hIp _ _ _ _ _ hi (by omega) hl rfl) hlen) ?_
  rintro e a3 W3 ⟨rfl, hk3, hkp3, hi3⟩
  have hl3 := hk3.same _ _ hl2 rfl
  have hr := run_endRound (P := P) none hl3
  rw [hrec] at hr
  have hl3' : W3.heap[w.heap.size + 1]? = some (.loop { rec .ready none with state := .busy }) := hl3
  refine ⟨_, _, hr, .inl ⟨rfl, ⟨hIp _ _ _ _ _ hi3 (by omega) hl3 rfl, ?_, (World.putObj_heap_other (by omega)).trans (hk3.same _ _ hk2 rfl)⟩, hKt (hKt hw2 hkp3) (hKp _ _ _ _ (by omega) hl3 rfl)⟩⟩
  rw [hrec]
  exact World.putObj_heap_same (Array.getElem?_eq_some_iff.1 hl3).1
 ·-- behind it
  rintro e W2 ⟨⟨v, rfl⟩, (⟨xs, hS, hi, hl, hk⟩ | ⟨pre, hf⟩)⟩
  ·exact ⟨none, _, by have := run_endLoop (P := P) hl (by rw [hrec]; simp); rw [hrec] at this; exact this, hdone _ xs _ (Nat.le_refl _) hS (hIp _ _ _ _ _ hi (by omega) hl rfl) ((World.putObj_heap_other (by omega)).trans hk)⟩
  ·exact hf.elim
end Go.Proofs.C10W
end
section
namespace Go.Proofs.C10W
open Go Go.Proofs.R
set_option linter.unusedVariables false
def capV (a b : Int) : Int := if a > IntKind.i64.wrap (4611686018427387904 - b) then 4611686018427387905 else IntKind.i64.wrap (a + b)
theorem capped_eq (a b : Int) : dag_capped.f a b = some (capV a b, ()) := by
 rw [dag_capped.f_eq]
 unfold capV ifB
 by_cases h : a > IntKind.i64.wrap (4611686018427387904 - b)
 ·rw [if_pos h, decide_eq_true h]; rfl
 ·rw [if_neg h, decide_eq_false h]; rfl
def stepV (arcs : List (Int × Int × Int)) (m : Nat) (out : List Int) (j : Int) : List Int :=
 out.set m (capV (out[m]?.getD 0) (out[(arcs[j.toNat]?.getD (0, 0, 0)).2.1.toNat]?.getD 0))
theorem stepV_len (arcs : List (Int × Int × Int)) (m : Nat) (out : List Int) (j : Int) : (stepV arcs m out j).length = out.length := by unfold stepV; simp
def arcsOk (n : Int) (arcs : List (Int × Int × Int)) : Bool := arcs.all fun a => decide (0 ≤ a.2.1) && decide (a.2.1 < n)
def rowOk (arcs : List (Int × Int × Int)) (l : List Int) : Bool := l.all (fun i => decide (0 ≤ i) && decide (i < arcs.length)) && decide (l.length < 4611686018427387904)
theorem ixAt_ok {α : Type} {xs : List α} {i : Int} {k : Nat} {x : α} (hi : i = k) (h : xs[k]? = some x) : ixAt xs i = some x := by
 unfold ixAt; subst hi; rw [if_pos (Int.natCast_nonneg k), Int.toNat_natCast]; exact h
theorem l7_run (n : Int) (arcs : List (Int × Int × Int)) (m : Nat) (l l' : List Int) (k : Nat) (hk : (k : Int) = n) (ha : arcsOk n arcs = true) (hl : rowOk arcs l' = true) (hm : m < k) : ∀ (d i : Nat) (out : List Int), l'.length - i = d → i ≤ l'.length → out.length = k →
  l7 n arcs m l l' (l'.length : Nat) i out = some ((l'.drop i).foldl (stepV arcs m) out) := by
 intro d
 have hlen : l'.length < 4611686018427387904 := by
  unfold rowOk at hl; simp only [Bool.and_eq_true] at hl; exact of_decide_eq_true hl.2
 induction d with
 | zero =>
  intro i out hd hi ho
  have : i = l'.length := by omega
  subst this
  rw [l7_eq, List.drop_length]
  unfold ifB
  rw [decide_eq_false (by omega)]
  rfl
 | succ d ih =>
  intro i out hd hi ho
  have hil : i < l'.length := by omega
  obtain ⟨j, hj⟩ : ∃ j, l'[i]? = some j := ⟨_, List.getElem?_eq_getElem hil⟩
  have hjm : j ∈ l' := List.mem_of_getElem? hj
  have hjb : 0 ≤ j ∧ j < arcs.length := by
   unfold rowOk at hl; simp only [Bool.and_eq_true, List.all_eq_true] at hl
   have := hl.1 j hjm; exact ⟨of_decide_eq_true this.1, of_decide_eq_true this.2⟩
  obtain ⟨arc, harc⟩ : ∃ a, arcs[j.toNat]? = some a := ⟨_, List.getElem?_eq_getElem (by omega)⟩
  have harcm := List.mem_of_getElem? harc
  have hab : 0 ≤ arc.2.1 ∧ arc.2.1 < n := by
   unfold arcsOk at ha; simp only [Bool.and_eq_true, List.all_eq_true] at ha
   have := ha arc harcm; exact ⟨of_decide_eq_true this.1, of_decide_eq_true this.2⟩
  obtain ⟨u, hu⟩ : ∃ u, out[m]? = some u := ⟨_, List.getElem?_eq_getElem (by omega)⟩
  obtain ⟨v, hv⟩ : ∃ v, out[arc.2.1.toNat]? = some v := ⟨_, List.getElem?_eq_getElem (by omega)⟩
  have hz : IntKind.i64.wrap ((i : Int) + 1) = ((i + 1 : Nat) : Int) := by rw [IntKind.wrap_i64]; omega
  have e1 : ixAt l' (i : Int) = some j := ixAt_ok rfl hj
  have e2 : ixAt out (m : Int) = some u := ixAt_ok rfl hu
  have e3 : ixAt arcs j = some arc := ixAt_ok (k := j.toNat) (by omega) harc
  have e4 : ixAt out arc.2.1 = some v := ixAt_ok (k := arc.2.1.toNat) (by omega) hv
  rw [l7_eq]
  unfold ifB
  rw [decide_eq_true (by omega), e1, e2]
  simp only [cond_true, bindD, Option.bind_some]
  rw [e3]
  simp only [Option.bind_some, e4, capped_eq, hz]
  have hset : setRow out (m : Int) (capV u v) = stepV arcs m out j := by
   unfold setRow stepV
   rw [hu, harc]
   simp only [Option.getD_some, hv, Int.toNat_natCast]
  rw [hset, ih (i + 1) _ (by omega) (by omega) (by rw [stepV_len]; exact ho)]
  have : l'.drop i = j :: l'.drop (i + 1) := by
   rw [List.drop_eq_getElem_cons hil]
   rw [List.getElem?_eq_getElem hil] at hj
   cases hj; rfl
  rw [this, List.foldl_cons]
theorem rnd_run (n : Int) (arcs : List (Int × Int × Int)) (m : Nat) (l : List Int) (k : Nat) (hk : (k : Int) = n) (ha : arcsOk n arcs = true) (hl : rowOk arcs l = true) (hm : m < k) (out : List Int) (ho : out.length = k) :
  rnd n arcs out m l = some (l.foldl (stepV arcs m) out) := by
 rw [rnd_eq]
 have := l7_run n arcs m l l k hk ha hl hm (l.length - 0) 0 out rfl (Nat.zero_le _) ho
 simpa using this
def roundsV (arcs : List (Int × Int × Int)) (rows : List (List Int)) (ms : List Nat) (out : List Int) : List Int :=
 ms.foldl (fun o m => (rows[m]?.getD []).foldl (stepV arcs m) o) out
theorem roundsV_snoc (arcs : List (Int × Int × Int)) (rows : List (List Int)) (ms : List Nat) (m : Nat) (out : List Int) : roundsV arcs rows (ms ++ [m]) out = (rows[m]?.getD []).foldl (stepV arcs m) (roundsV arcs rows ms out) := by
 unfold roundsV; rw [List.foldl_append]; rfl
def backs (len : Nat) : List Nat := (List.range len).map fun j => len - 1 - j
noncomputable def waysV (n : Int) (arcs : List (Int × Int × Int)) : Option (List Int) :=
 (mkLen n n).bind fun k => (ixAt (List.replicate k (0 : Int)) (IntKind.i64.wrap (n - 1))).bind fun _ => (dag_byFrom.f n arcs).bind fun t =>
  bif arcsOk n arcs && t.1.all (rowOk arcs) && Nat.ble t.1.length k then
   some (roundsV arcs t.1 (backs t.1.length) (setRow (List.replicate k (0 : Int)) (IntKind.i64.wrap (n - 1)) 1)) else none
noncomputable def waysR {ρ : Type} (args : List AV) (K : List DV → Option ρ) : Option ρ :=
 match args with
 | [.agg [.v (.int .i64) n, .v t xs]] => (castV t (.sl arcT) xs).bind fun arcs => (waysV n arcs).bind fun out => K [⟨.sl (.int .i64), out⟩]
 | _ => none
noncomputable def waysG : Given := ⟨waysR⟩
end Go.Proofs.C10W
end
section
namespace Go.Proofs.C10W
open Go Go.Proofs.R
set_option maxRecDepth 100000
set_option linter.unusedVariables false
def regOps : Code → List Oper | .region _ ops _ => ops.toList | _ => []
noncomputable def ops3 : Array Oper := (regOps r3).toArray
noncomputable def ops3a : Array Oper := ((regOps r3).take 2).toArray
noncomputable def r3a : Code := .region 3 ops3a false
noncomputable def o3 : Oper := ((regOps r3)[2]?).getD ⟨none, .move (.tmp 0), 0, "", #[], none⟩
theorem r3_eq : r3 = .region 3 ops3 false := by kernel_rfl
theorem ops3_at : ops3[2]? = some o3 := by kernel_rfl
theorem ops3_size : ops3.size = 3 := by kernel_rfl
theorem ops3_same (j : Nat) (hj : j ∈ [0, 1]) : ∃ o, ops3a[j]? = some o ∧ ops3[j]? = some o ∧ o.guard = none := by
 have : j = 0 ∨ j = 1 := by simpa using hj
 rcases this with rfl | rfl
 ·exact ⟨((regOps r3)[0]?).getD ⟨none, .move (.tmp 0), 0, "", #[], none⟩, by kernel_rfl, by kernel_rfl, by kernel_rfl⟩
 ·exact ⟨((regOps r3)[1]?).getD ⟨none, .move (.tmp 0), 0, "", #[], none⟩, by kernel_rfl, by kernel_rfl, by kernel_rfl⟩
theorem o3_op : o3.op = .call { callee := .value (.func 77), args := #[.tmp 17], argTypes := #[37] } := by kernel_rfl
theorem o3_dst : o3.dst = some 18 := by kernel_rfl
theorem o3_guard : o3.guard = none := by kernel_rfl
def ST (n : Int) (arcs : List (Int × Int × Int)) (k : Nat) (rows : List (List Int)) : St :=
 ⟨[(17, (.one (.row 136))), (16, (.agg [(.v (.int .i64) n), (.v (.sl arcT) arcs)])), (15, (.one (.eref 80 (Go.IntKind.wrap Go.IntKind.i64 (n - (1 : Int))) 0))), (14, (.one (.v (.int .i64) (Go.IntKind.wrap Go.IntKind.i64 (n - (1 : Int)))))), (13, (.one (.v (.int .i64) n))), (12, (.one (.ref 8 0))), (11, (.one (.row 80))), (3, (.one (.ref 24 0))), (10, (.one (.row 80))), (9, (.one (.v (.int .i64) n))), (8, (.one (.ref 8 0))), (2, (.one (.nil 2 (.int .i64)))), (1, (.one (.ref 8 0))), (0, (.agg [(.v (.int .i64) n), (.v (.sl arcT) arcs)]))],
  [(136, (.row 27 (.sl (.int .i64)) rows false)), (80, (.row 2 (.int .i64) (setRow (List.replicate k (0 : Int)) (Go.IntKind.wrap Go.IntKind.i64 (n - (1 : Int))) (1 : Int)) false)), (24, (.box 75 [(.row 80)])), (24, (.box 75 [(.nil 2 (.int .i64))])), (80, (.row 2 (.int .i64) (List.replicate k (0 : Int)) false)), (8, (.box 24 [(.v (.int .i64) n), (.v (.sl arcT) arcs)]))]⟩
def args0 (n : Int) (arcs : List (Int × Int × Int)) : List AV := [.agg [.v (.int .i64) n, .v (.sl arcT) arcs]]
noncomputable def L3 (st : St) : Option St := evalC ctx (Einf ctx) 67 46 r3a st (nK some)
noncomputable def L2 (st : St) : Option St := evalC ctx (Einf ctx) 67 46 r2 st (nK L3)
noncomputable def L1 (st : St) : Option St := evalC ctx (Einf ctx) 67 46 r1 st (nK L2)
theorem pre_eval (n : Int) (arcs : List (Int × Int × Int)) : evalC ctx (Einf ctx) 67 46 r0 ⟨initSlots (args0 n arcs) 0, []⟩ (nK L1) =
  bindD (mkLen n n) fun k => bindD (ixAt (List.replicate k (0 : Int)) (Go.IntKind.wrap Go.IntKind.i64 (n - (1 : Int)))) fun _ => bindD (ixAt (List.replicate k (0 : Int)) (Go.IntKind.wrap Go.IntKind.i64 (n - (1 : Int)))) fun _ =>
   bindD (dag_byFrom.f n arcs) fun t => some (ST n arcs k t.1) := by kernel_rfl
theorem nt67 : Try.f67.ntmps = 46 := by kernel_rfl
theorem nm67 : (Try.f67.name == "runtime.NumGoroutine") = false := by kernel_rfl
theorem ok0 : codeOk r0 = true := by kernel_rfl
theorem ok1 : codeOk r1 = true := by kernel_rfl
theorem ok2 : codeOk r2 = true := by kernel_rfl
theorem okb : codeOk rbody = true := by kernel_rfl
theorem ndb : codeNd rbody = true := by kernel_rfl
theorem fn67 : lkp ctx.fn 67 = some Try.f67 := by kernel_rfl
end Go.Proofs.C10W
end
section
namespace Go.Proofs.C10W
open Go Go.Proofs.R
open Go.RowKit
set_option maxRecDepth 100000
set_option linter.unusedVariables false
theorem mkLen_some {n m : Int} {k : Nat} (h : mkLen n m = some k) : 0 ≤ n ∧ (k : Int) = n ∧ m ≤ 4294967296 := by
 unfold mkLen at h
 split at h
 ·rename_i hh
  have : n.toNat = k := Option.some.inj h
  have h3 := hh.2.2
  unfold mostLen at h3
  exact ⟨hh.1, by omega, by omega⟩
 ·cases h
structure Mem (W5 : World) (Br o cap k : Nat) (out : List Int) (W : World) : Prop where
 os : W.os = W5.os
 tape : W.tape = W5.tape
 output : W.output = W5.output
 drawn : W5.drawn ≤ W.drawn
 size : W5.heap.size ≤ W.heap.size
 keep : ∀ j, j < W5.heap.size → j ≠ Br → W.heap[j]? = W5.heap[j]?
 br : Br < W5.heap.size
 len : out.length = k
 row : ∃ arr cs rest, W.heap[Br]? = some (.cells arr 2 (0, 0)) ∧ out.length ≤ cap ∧ arr.toList.drop o = cs ++ rest ∧ RdsOf (Rd (fun _ _ => False) W (.int .i64)) cs out ∧ o + cap * 1 ≤ arr.size ∧ o ≤ arr.size ∧ ∀ v ∈ arr.toList, v.oneCell' = true
theorem rdsInt {S S' : CellSet} {W W' : World} {cs : List Value} {xs : List Int} (h : RdsOf (Rd S W (.int .i64)) cs xs) : RdsOf (Rd S' W' (.int .i64)) cs xs := RdsOf_mono (fun _ _ h => h) h
theorem Mem.alloc {W5 : World} {Br o cap k : Nat} {out : List Int} {W : World} (h : Mem W5 Br o cap k out W) (ob : Obj) : Mem W5 Br o cap k out (W.alloc ob) := by
 have hb : ∀ j, j < W.heap.size → (W.alloc ob).heap[j]? = W.heap[j]? := fun j hj => Below.heap_alloc _ _ _ hj
 obtain ⟨arr, cs, rest, h1, h2, h3, h4, h5⟩ := h.row
 refine ⟨h.os, h.tape, h.output, h.drawn, by rw [World.size_alloc]; exact Nat.le_succ_of_le h.size, fun j hj hn => (hb j (Nat.lt_of_lt_of_le hj h.size)).trans (h.keep j hj hn), h.br, h.len, arr, cs, rest, (hb _ (Nat.lt_of_lt_of_le h.br h.size)).trans h1, h2, h3, rdsInt h4, h5⟩
theorem Mem.putObj {W5 : World} {Br o cap k : Nat} {out : List Int} {W : World} (h : Mem W5 Br o cap k out W) {l : Nat} (hl : W5.heap.size ≤ l) (ob : Obj) : Mem W5 Br o cap k out (W.putObj l ob) := by
 have hb : ∀ j, j < W5.heap.size → (W.putObj l ob).heap[j]? = W.heap[j]? := fun j hj => World.putObj_heap_other (by omega)
 obtain ⟨arr, cs, rest, h1, h2, h3, h4, h5⟩ := h.row
 refine ⟨h.os, h.tape, h.output, h.drawn, by simpa using h.size, fun j hj hn => (hb j hj).trans (h.keep j hj hn), h.br, h.len, arr, cs, rest, (hb _ h.br).trans h1, h2, h3, rdsInt h4, h5⟩
def F2 (Br Bo : Nat) (W : World) : Fr := ⟨W, fun b => b = Br, fun b _ => b < W.heap.size ∧ b ≠ Br, fun k => if k = 0 then .pointer (some ⟨Bo, 0, none⟩) else undef⟩
def O2 (out : List Int) : List (Nat × AObj) := [(7, .row 2 (.int .i64) out false)]
def β2 (Br o cap : Nat) (n : Nat) : R.Place := if n = 7 then (some (Br, o), cap) else (none, 0)
theorem O2_some {out : List Int} {n : Nat} {ob : AObj} (h : lkp (O2 out) n = some ob) : n = 7 ∧ ob = .row 2 (.int .i64) out false := by
 unfold O2 at h
 rw [lkp_cons] at h
 split at h
 ·rename_i e; cases h; exact ⟨e, rfl⟩
 ·cases h
theorem core2 {W5 : World} {Br o cap k : Nat} {out : List Int} {W : World} (h : Mem W5 Br o cap k out W) (Bo : Nat) : Core (F2 Br Bo W) (F2 Br Bo W).Sf (β2 Br o cap) (lkp (O2 out)) W := by
 constructor
 ·rfl
 ·rfl
 ·rfl
 ·exact Nat.le_refl _
 ·exact Nat.le_refl _
 ·exact fun _ _ _ => rfl
 ·intro n ob hO
  obtain ⟨rfl, rfl⟩ := O2_some hO
  obtain ⟨arr, cs, rest, h1, h2, h3, h4, h5⟩ := h.row
  exact .inr ⟨Br, o, arr, cs, rest, rfl, h1, h2, h3, rdsInt h4, h5⟩
 ·intro n ob b off hO _ hb
  obtain ⟨rfl, rfl⟩ := O2_some hO
  cases hb
  exact .inr rfl
 ·intro n m ob o' b x y hO hm _ _ _ _
  obtain ⟨rfl, _⟩ := O2_some hO
  obtain ⟨rfl, _⟩ := O2_some hm
  rfl
 ·exact fun _ _ h => h
 ·exact fun _ _ h => .inl h
 ·exact fun _ _ h => h.1
 ·intro b i n ob off hs hO _ hb
  obtain ⟨rfl, rfl⟩ := O2_some hO
  cases hb
  exact absurd rfl hs.2
 ·intro n e t xs b off i hO
  obtain ⟨_, h2⟩ := O2_some hO
  cases h2
theorem round_ok {n : Int} {arcs : List (Int × Int × Int)} {W5 : World} {Br o cap k : Nat} (hk : (k : Int) = n) (ha : arcsOk n arcs = true) {out : List Int} {W : World} (h : Mem W5 Br o cap k out W)
  {m : Nat} (hm : m < k) {l : List Int} (hl : rowOk arcs l = true) {v : Value} (hv : Rd (fun b _ => b < W5.heap.size ∧ b ≠ Br) W5 (.sl (.int .i64)) [v] l)
  {Bg Bo : Nat} {ag : Array Value} (hBg : W5.heap[Bg]? = some (.cells ag 24 (0, 0))) (hgb : Bg < W5.heap.size ∧ Bg ≠ Br) (hag : RelLs (Fr.rp (F2 Br Bo W5) (F2 Br Bo W5).Sf (β2 Br o cap) (lkp (O2 out)) W5) [.v (.int .i64) n, .v (.sl arcT) arcs] ag.toList)
  (hBo : W5.heap[Bo]? = some (.cells #[.slice (some ⟨Br, o, none⟩) k cap] 75 (0, 0))) (hob : Bo < W5.heap.size ∧ Bo ≠ Br)
  {a : Act} (hsz : a.tmps.size = 46) (hdf : a.defers = []) (t1 : a.tmps.getD 1 undef = .pointer (some ⟨Bg, 0, none⟩)) (t3 : a.tmps.getD 3 undef = .pointer (some ⟨Bo, 0, none⟩)) (t4 : a.tmps.getD 4 undef = .int .i64 m) (t5 : a.tmps.getD 5 undef = v) (i j : Nat) :
  rbody.wpIn (rfence i) j Try.prog (fun e _ W' => e = .normal ∧ KeepsOthers W W' ∧ KeepB W5.heap.size Br W W' ∧ Mem W5 Br o cap k (l.foldl (stepV arcs m) out) W') a W := by
 have hcl : ∀ b i v, (b < W5.heap.size ∧ b ≠ Br) → cellAt W5 b i = some v → cellAt W b i = some v := by
  intro b i v hb hc; rw [cellAt_block (h.keep b hb.1 hb.2)]; exact hc
 have hS : ∀ (b i : Nat), (b < W5.heap.size ∧ b ≠ Br) → (b < W.heap.size ∧ b ≠ Br) := fun b _ hb => ⟨Nat.lt_of_lt_of_le hb.1 h.size, hb.2⟩
 have hsl := fun d (hd : d < rootBase) => slotV_lt (p := Fr.rp (F2 Br Bo W) (F2 Br Bo W).Sf (β2 Br o cap) (lkp (O2 out)) W) (tmps := a.tmps) hd
 have hg : R.Good (F2 Br Bo W) 46 (rndSt n arcs out m l) a W := by
  refine ⟨(F2 Br Bo W).Sf, β2 Br o cap, lkp (O2 out), core2 h Bo, ?_, (view_plain (O := O2 out) rfl).1, (view_plain (O := O2 out) rfl).2, hsz, hdf⟩
  intro d av hd
  have hd' : (d = 1 ∧ av = .one (.pref [.v (.int .i64) n, .v (.sl arcT) arcs] 0)) ∨ (d = 3 ∧ av = .one (.pref [.row 7] 0)) ∨ (d = 4 ∧ av = .one (.v (.int .i64) (m : Int))) ∨ (d = 5 ∧ av = .one (.v (.sl (.int .i64)) l)) ∨ (d = 2097152 ∧ av = .one (.pref [.row 7] 0)) := by
   unfold rndSt at hd
   simp only [lkp_cons] at hd
   split at hd
   ·rename_i e; cases hd; exact .inl ⟨e, rfl⟩
   split at hd
   ·rename_i e; cases hd; exact .inr (.inl ⟨e, rfl⟩)
   split at hd
   ·rename_i e; cases hd; exact .inr (.inr (.inl ⟨e, rfl⟩))
   split at hd
   ·rename_i e; cases hd; exact .inr (.inr (.inr (.inl ⟨e, rfl⟩)))
   split at hd
   ·rename_i e; cases hd; exact .inr (.inr (.inr (.inr ⟨e, rfl⟩)))
   ·cases hd
  rcases hd' with ⟨rfl, rfl⟩ | ⟨rfl, rfl⟩ | ⟨rfl, rfl⟩ | ⟨rfl, rfl⟩ | ⟨rfl, rfl⟩
  ·rw [hsl 1 (by unfold rootBase; omega), t1]
   refine .inr ⟨Bg, 0, ag.toList, rfl, ?_, ?_⟩
   ·obtain ⟨c, d, e1, h1, c2, d2, e2, h2, h3⟩ := hag
    exact ⟨c, d, e1, h1, c2, d2, e2, Rd_mono hS hcl (.sl arcT) h2, h3⟩
   ·exact At_of_block (arr := ag) (rest := []) ((h.keep _ hgb.1 hgb.2).trans hBg) (by simp) (fun j hj => .inr (hS _ 0 hgb))
  ·rw [hsl 3 (by unfold rootBase; omega), t3]
   refine .inr ⟨Bo, 0, [.slice (some ⟨Br, o, none⟩) k cap], rfl, ⟨[.slice (some ⟨Br, o, none⟩) k cap], [], rfl, ?_, rfl⟩, ?_⟩
   ·show RelL _ (.row 7) _
    unfold RelL
    show [Value.slice (some ⟨Br, o, none⟩) k cap] = [.slice (addrOf (some (Br, o))) out.length cap]
    rw [h.len]; rfl
   ·exact At_of_block (arr := #[.slice (some ⟨Br, o, none⟩) k cap]) (rest := []) ((h.keep _ hob.1 hob.2).trans hBo) (by simp) (fun j hj => .inr (hS _ 0 hob))
  ·rw [hsl 4 (by unfold rootBase; omega), t4]
   exact .inr rfl
  ·rw [hsl 5 (by unfold rootBase; omega), t5]
   exact .inr (Rd_mono hS hcl (.sl (.int .i64)) hv)
  ·have hr0 : slotV (Fr.rp (F2 Br Bo W) (F2 Br Bo W).Sf (β2 Br o cap) (lkp (O2 out)) W) a.tmps 2097152 = .pointer (some ⟨Bo, 0, none⟩) := by
    unfold slotV
    rw [if_neg (by rw [hsz]; omega), if_neg (by unfold rootBase; omega)]
    rfl
   rw [hr0]
   refine .inr ⟨Bo, 0, [.slice (some ⟨Br, o, none⟩) k cap], rfl, ⟨[.slice (some ⟨Br, o, none⟩) k cap], [], rfl, ?_, rfl⟩, ?_⟩
   ·show RelL _ (.row 7) _
    unfold RelL
    show [Value.slice (some ⟨Br, o, none⟩) k cap] = [.slice (addrOf (some (Br, o))) out.length cap]
    rw [h.len]; rfl
   ·exact At_of_block (arr := #[.slice (some ⟨Br, o, none⟩) k cap]) (rest := []) ((h.keep _ hob.1 hob.2).trans hBo) (by simp) (fun j hj => .inr (hS _ 0 hob))
 refine evalCR_ok env.env (Einf_snd env).snd (Einf_sndR env) fn67 rbody (rndSt n arcs out m l) rndK a W _ okb ndb (by rintro ⟨a, w, h, _⟩; cases h) (by rw [nt67]; exact rnd_run n arcs m l k hk ha hl hm out h.len) (by rw [nt67]; exact hg) ?_
 intro ex st a' W' hg' hk'
 cases ex with
 | exit id => cases hk'
 | ret => cases hk'
 | normal =>
  rw [nt67] at hg'
  obtain ⟨S, β, Om, hc, hs, hlk, hsz', _⟩ := hg'.ends
  unfold rndK at hk'
  simp only at hk'
  split at hk'
  ·rename_i jn hσ
   split at hk'
   ·rename_i e t xs hO
    cases he : Nat.beq e 2 with
    | false => rw [he] at hk'; cases hk'
    | true =>
     have he := Nat.eq_of_beq_eq_true he
     subst he
     simp only [Nat.beq_refl, cond_true] at hk'
     obtain ⟨ht, hx⟩ := castV_eq hk'
     cases ht
     simp only at hx
     have hO' : Om jn = some (.row 2 (.int .i64) xs false) := hlk jn _ (by
      show lkp (st.O.map fun p => (p.1, plainOf p.2)) jn = _
      rw [lkp_map, hO]; rfl)
     have h3 := hs 2097152 _ hσ
     have hr0 : slotV (Fr.rp (F2 Br Bo W) S β Om W') a'.tmps 2097152 = .pointer (some ⟨Bo, 0, none⟩) := by
      unfold slotV
      rw [if_neg (by rw [hsz']; omega), if_neg (by unfold rootBase; omega)]
      rfl
     rw [hr0] at h3
     rcases h3 with h3 | h3
     ·cases h3
     obtain ⟨b, o', ds, e1, ⟨c1, d1, e2, h4, h5⟩, h6⟩ := h3
     have hkeep : ∀ k, k < W.heap.size → k ≠ Br → W'.heap[k]? = W.heap[k]? := fun k h1 h2 => hc.keep k h1 h2
     simp only [List.cons.injEq, Value.pointer.injEq, Option.some.injEq, Addr.mk.injEq, and_true, Nat.add_zero] at e1
     obtain ⟨rfl, rfl⟩ := e1
     unfold RelL at h4
     rw [show (Fr.rp (F2 Br Bo W) S β Om W').O jn = some (.row 2 (.int .i64) xs false) from hO'] at h4
     simp only at h4
     subst h4
     have h7 : d1 = [] := h5
     subst h7
     subst e2
     have hbo : Bo < W.heap.size := Nat.lt_of_lt_of_le hob.1 h.size
     have hblk : W'.heap[Bo]? = some (.cells #[.slice (some ⟨Br, o, none⟩) k cap] 75 (0, 0)) := (hkeep Bo hbo hob.2).trans ((h.keep _ hob.1 hob.2).trans hBo)
     have h8 := arr_cells hblk 0 (.slice (some ⟨Br, o, none⟩) k cap) rfl
     have h9 := h6.1
     rw [Nat.zero_add] at h8
     have h10 := h8.symm.trans h9
     simp only [Option.some.injEq, Value.slice.injEq] at h10
     obtain ⟨h11, h12, h13⟩ := h10
     have hβ : (β jn).1 = some (Br, o) := by
      have h11 : some (⟨Br, o, none⟩ : Addr) = addrOf (β jn).1 := h11
      cases hb : (β jn).1 with
      | none => rw [hb] at h11; cases h11
      | some q =>
       rw [hb] at h11
       unfold addrOf at h11
       simp only [Option.some.injEq, Addr.mk.injEq, and_true] at h11
       obtain ⟨q1, q2⟩ := q
       simp only at h11
       rw [h11.1, h11.2]
     have hxs : xs.length = k := h12.symm
     rcases hc.obj jn _ hO' with ⟨h14, _⟩ | ⟨b2, o2, arr, cs, rest, h14, h15, h16, h17, h18, h19, h20, h21⟩
     ·have h14 : β jn = (none, 0) := h14
      rw [h14] at hβ; cases hβ
     ·have h14 : (β jn).1 = some (b2, o2) := h14
      rw [hβ] at h14
      simp only [Option.some.injEq, Prod.mk.injEq] at h14
      obtain ⟨rfl, rfl⟩ := h14
      have hcap : (β jn).2 = cap := h13.symm
      have hbr : W.heap[Br]? ≠ none := by
       obtain ⟨arr, cs, rest, h1, _⟩ := h.row
       rw [h1]; simp
      refine ⟨rfl, ⟨hc.size, ?_⟩, ⟨hc.size, ?_⟩, ?_⟩
      ·intro k ob hk hcell
       have hkl := (Array.getElem?_eq_some_iff.1 hk).1
       by_cases hkb : k = Br
       ·subst hkb
        obtain ⟨arr, cs, rest, h1, _⟩ := h.row
        rw [h1] at hk; cases hk; cases hcell
       ·exact (hkeep k hkl hkb).trans hk
      ·intro k h1 h2
       exact hkeep k (Nat.lt_of_lt_of_le h1 h.size) h2
      ·rw [← hx]
       refine ⟨hc.os.trans h.os, hc.tape.trans h.tape, hc.output.trans h.output, Nat.le_trans h.drawn hc.drawn, Nat.le_trans h.size hc.size, ?_, h.br, hxs, arr, cs, rest, h15, ?_, h17, rdsInt h18, ?_, h20, h21⟩
       ·intro j h1 h2
        exact (hkeep j (Nat.lt_of_lt_of_le h1 h.size) h2).trans (h.keep j h1 h2)
       ·rw [← hcap]; exact h16
       ·rw [← hcap]; exact h19
   ·cases hk'
  ·cases hk'
end Go.Proofs.C10W
end
section
namespace Go.Proofs.C10W
open Go Go.Proofs.R
open Go.RowKit
set_option maxRecDepth 100000
set_option linter.unusedVariables false
noncomputable def ops11 : Array Oper := (regOps r11).toArray
noncomputable def oA : Oper := ((regOps r11)[0]?).getD ⟨none, .move (.tmp 0), 0, "", #[], none⟩
noncomputable def oB : Oper := ((regOps r11)[1]?).getD ⟨none, .move (.tmp 0), 0, "", #[], none⟩
theorem r11_eq : r11 = .region 11 ops11 false := by kernel_rfl
theorem ops11_size : ops11.size = 2 := by kernel_rfl
theorem ops11_0 : ops11[0]? = some oA := by kernel_rfl
theorem ops11_1 : ops11[1]? = some oB := by kernel_rfl
theorem oA_op : oA.op = .load 75 (.tmp 3) ∧ oA.dst = some 45 ∧ oA.guard = none := ⟨by kernel_rfl, by kernel_rfl, by kernel_rfl⟩
theorem oB_op : oB.op = .assign (.tmp 45) ∧ oB.dst = some 2 ∧ oB.guard = none := ⟨by kernel_rfl, by kernel_rfl, by kernel_rfl⟩
noncomputable def opsC : Array Oper := (regOps (seqL rass)).toArray
noncomputable def opsD : Array Oper := (regOps (seqR rass)).toArray
noncomputable def oC : Oper := ((regOps (seqL rass))[0]?).getD ⟨none, .move (.tmp 0), 0, "", #[], none⟩
noncomputable def oD : Oper := ((regOps (seqR rass))[0]?).getD ⟨none, .move (.tmp 0), 0, "", #[], none⟩
theorem rass_eq : rass = .seq (.region 4 opsC false) (.region 5 opsD false) := by kernel_rfl
theorem opsC_size : opsC.size = 1 := by kernel_rfl
theorem opsD_size : opsD.size = 1 := by kernel_rfl
theorem opsC_0 : opsC[0]? = some oC := by kernel_rfl
theorem opsD_0 : opsD[0]? = some oD := by kernel_rfl
theorem oC_op : oC.op = .assign (.tmp 19) ∧ oC.dst = some 4 ∧ oC.guard = none := ⟨by kernel_rfl, by kernel_rfl, by kernel_rfl⟩
theorem oD_op : oD.op = .assign (.tmp 20) ∧ oD.dst = some 5 ∧ oD.guard = none := ⟨by kernel_rfl, by kernel_rfl, by kernel_rfl⟩
theorem res67 : Try.f67.results = #[.tmp 2] := by kernel_rfl
theorem ops_value {Fc : Fence} {n : Nat} {P : Program} {ops : Array Oper} {Q : Exit → Act → World → Prop} {j d : Nat} {l : List Nat} {o : Oper} {a : Act} {w : World} {v : Value} (ho : ops[j]? = some o) (hg : o.guard = none) (hd : o.dst = some d) (hnd : ∀ c, o.op ≠ .defer c)
  (hab : ∀ f, o.about P w a.eval = some f → Fc.fn f) (h : (execOp a.eval o).run P w = .ok (.value v) w) (hq : wpOpsIn Fc n P ops Q l { a with tmps := a.tmps.setIfInBounds d v } w) : wpOpsIn Fc n P ops Q (j :: l) a w := by
 unfold wpOpsIn
 rw [ho]
 simp only
 rw [if_pos (by unfold Region.wanted; rw [hg])]
 refine ⟨hab, ?_⟩
 rw [Oper.semAt_eq _ _ _ hnd, h, Oper.uponIn_value]
 unfold Act.put
 rw [hd]
 exact hq
theorem exec_assign {P : Program} {o : Oper} {x : Operand} (h : o.op = .assign x) (a : Act) (w : World) : (execOp a.eval o).run P w = .ok (.value (a.eval x)) w := by simp [execOp, h]
theorem exec_load1 {o : Oper} {x : Operand} {T : TypeId} {te : TE} (h : o.op = .load T x) (hT : TOk Try.prog ctx T te) (ha : aggOf te = false) {a : Act} {w : World} {b : Nat} {v : Value} (hx : a.eval x = .pointer (some ⟨b, 0, none⟩)) (hv : cellAt w b 0 = some v) : (execOp a.eval o).run Try.prog w = .ok (.value v) w := by
 simp only [cellAt] at hv
 simp [execOp, h, hx, Instr.loadAt, Instr.sureAddr, loadVar, isAgg_run hT, ha, hv]
theorem getD_set {t : Array Value} {d e : Nat} {v : Value} (h : d ≠ e) : (t.setIfInBounds d v).getD e undef = t.getD e undef := by
 simp only [Array.getD_eq_getD_getElem?]
 rw [Array.getElem?_setIfInBounds_ne h]
theorem getD_set' {t : Array Value} {d : Nat} {v : Value} (h : d < t.size) : (t.setIfInBounds d v).getD d undef = v := by
 simp only [Array.getD_eq_getD_getElem?]
 rw [Array.getElem?_setIfInBounds_self_of_lt h]; rfl
theorem assign_ok {n l : Nat} {t : Array Value} {u v : Value} (ht : t.size = 46) {K : Act → World → Prop} {W : World}
  (hK : K { tmps := (((t.setIfInBounds 19 u).setIfInBounds 20 v).setIfInBounds 4 u).setIfInBounds 5 v, defers := [] } W) :
  rass.wpIn (rfence l) n Try.prog (Exit.then K (fun _ _ _ => False)) { tmps := (#[19, 20].zip #[u, v]).foldl (fun t (p, v) => t.setIfInBounds p v) t, defers := [] } W := by
 have e0 : (#[19, 20].zip #[u, v]).foldl (fun (t : Array Value) (p : Tmp × Value) => t.setIfInBounds p.1 p.2) t = (t.setIfInBounds 19 u).setIfInBounds 20 v := by
  have : #[19, 20].zip #[u, v] = #[((19 : Tmp), u), (20, v)] := by
   apply Array.ext
   ·simp
   ·intro i h1 h2
    simp at h2
    match i, h2 with
    | 0, _ => simp
    | 1, _ => simp
  rw [this]; rfl
 rw [rass_eq]
 show (Code.seq _ _).wpIn _ _ _ _ { tmps := (#[19, 20].zip #[u, v]).foldl (fun (t : Array Value) (p : Tmp × Value) => t.setIfInBounds p.1 p.2) t, defers := [] } W
 rw [e0]
 refine wpIn_seq (wpIn_region ?_)
 rw [opsC_size]
 refine ops_value opsC_0 oC_op.2.2 oC_op.2.1 (fun c h => by rw [oC_op.1] at h; cases h) (fun _ _ => trivial) (exec_assign oC_op.1 _ _) ?_
 refine wpIn_region ?_
 rw [opsD_size]
 refine ops_value opsD_0 oD_op.2.2 oD_op.2.1 (fun c h => by rw [oD_op.1] at h; cases h) (fun _ _ => trivial) (exec_assign oD_op.1 _ _) ?_
 show K _ W
 have e1 : (Act.eval { tmps := (t.setIfInBounds 19 u).setIfInBounds 20 v, defers := [] } (.tmp 19)) = u := by
  show Array.getD _ 19 undef = u
  rw [getD_set (by omega), getD_set' (by omega)]
 rw [e1]
 have e2 : (Act.eval { tmps := ((t.setIfInBounds 19 u).setIfInBounds 20 v).setIfInBounds 4 u, defers := [] } (.tmp 20)) = v := by
  show Array.getD _ 20 undef = v
  rw [getD_set (by omega), getD_set' (by simp; omega)]
 rw [e2]
 exact hK
end Go.Proofs.C10W
end
section
namespace Go.Proofs.C10W
open Go Go.Proofs.R
open Go.RowKit
open Go.Shelf
set_option maxRecDepth 100000
set_option linter.unusedVariables false
def te75 : TE := ⟨(.slice 2), some (.sl (.int .i64)), 1, [], [(.nil 2 (.int .i64))]⟩
theorem te75_at : lkp ctx.te 75 = some te75 := by kernel_rfl
theorem te75_ag : aggOf te75 = false := rfl
theorem snapshot {n : Int} {arcs : List (Int × Int × Int)} {k : Nat} {rows : List (List Int)} {F : Fr} {a : Act} {w : World} (hX : ∀ b, ¬ F.X b) (hkp : 0 < k) (hg : R.Good F 46 (ST n arcs k rows) a w) :
  ∃ (Bg Bo Br o cap : Nat) (ag : Array Value) (A : Option Addr) (cap2 b2 off2 : Nat) (vs : List Value),
   a.tmps.size = 46 ∧ a.defers = [] ∧ a.tmps.getD 1 undef = .pointer (some ⟨Bg, 0, none⟩) ∧ a.tmps.getD 3 undef = .pointer (some ⟨Bo, 0, none⟩) ∧ a.tmps.getD 17 undef = .slice A rows.length cap2 ∧
   w.heap[Bg]? = some (.cells ag 24 (0, 0)) ∧ w.heap[Bo]? = some (.cells #[.slice (some ⟨Br, o, none⟩) k cap] 75 (0, 0)) ∧ Bg ≠ Br ∧ Bo ≠ Br ∧ F.w0.heap.size ≤ Br ∧
   (∃ ds es, ag.toList = ds ++ es ∧ ds = [.int .i64 n] ∧ Rd (fun b _ => b < w.heap.size ∧ b ≠ Br) w (.sl arcT) es arcs) ∧
   (∃ arr cs rest, w.heap[Br]? = some (.cells arr 2 (0, 0)) ∧ k ≤ cap ∧ arr.toList.drop o = cs ++ rest ∧ RdsOf (Rd (fun _ _ => False) w (.int .i64)) cs (setRow (List.replicate k (0 : Int)) (IntKind.i64.wrap (n - 1)) 1) ∧ o + cap * 1 ≤ arr.size ∧ o ≤ arr.size ∧ ∀ v ∈ arr.toList, v.oneCell' = true) ∧
   vs.length = rows.length ∧ (0 < rows.length → A = some ⟨b2, off2, none⟩ ∧ b2 < w.heap.size ∧ b2 ≠ Br) ∧ (∀ j : Nat, j < rows.length → w.cell? ⟨b2, off2 + j, none⟩ = some (vs[j]?.getD undef)) ∧
   (∀ (j : Nat) (l : List Int), rows[j]? = some l → Rd (fun b _ => b < w.heap.size ∧ b ≠ Br) w (.sl (.int .i64)) [vs[j]?.getD undef] l) ∧ F.w0.os = w.os ∧ F.w0.tape = w.tape ∧ F.w0.output = w.output ∧ F.w0.drawn ≤ w.drawn ∧ F.w0.heap.size ≤ w.heap.size ∧ (∀ k, k < F.w0.heap.size → w.heap[k]? = F.w0.heap[k]?) := by
 obtain ⟨S, β, Om, hc, hs, hlk, hsz, hdf⟩ := hg.ends
 have hO8 : Om 8 = some (.box 24 [.v (.int .i64) n, .v (.sl arcT) arcs]) := hlk 8 _ rfl
 have hO24 : Om 24 = some (.box 75 [.row 80]) := hlk 24 _ rfl
 have hO80 : Om 80 = some (.row 2 (.int .i64) (setRow (List.replicate k (0 : Int)) (IntKind.i64.wrap (n - 1)) 1) false) := hlk 80 _ rfl
 have hO136 : Om 136 = some (.row 27 (.sl (.int .i64)) rows false) := hlk 136 _ rfl
 have hlen : (setRow (List.replicate k (0 : Int)) (IntKind.i64.wrap (n - 1)) 1).length = k := by unfold setRow; simp
 obtain ⟨Bg, ag, g1, g2, g3⟩ := hc.obj 8 _ hO8
 obtain ⟨Bo, ao, p1, p2, p3⟩ := hc.obj 24 _ hO24
 have g1 : (β 8).1 = some (Bg, 0) := g1
 have p1 : (β 24).1 = some (Bo, 0) := p1
 have hsl : ∀ d, d < 46 → slotV (F.rp S β Om w) a.tmps d = a.tmps.getD d undef := fun d hd => slotV_lt (by unfold rootBase; omega)
 have s1 := hs 1 (.one (.ref 8 0)) rfl
 have s3 := hs 3 (.one (.ref 24 0)) rfl
 have s17 := hs 17 (.one (.row 136)) rfl
 rw [hsl 1 (by omega)] at s1
 rw [hsl 3 (by omega)] at s3
 rw [hsl 17 (by omega)] at s17
 have t1 : a.tmps.getD 1 undef = .pointer (some ⟨Bg, 0, none⟩) := by
  rcases s1 with s1 | s1
  ·cases s1
  ·unfold RelL at s1
   rw [show (F.rp S β Om w).O 8 = _ from hO8] at s1
   obtain ⟨b, h1, h2⟩ := s1
   rw [show (F.rp S β Om w).β 8 = β 8 from rfl, g1] at h1
   cases h1; exact List.cons.inj h2 |>.1
 have t3 : a.tmps.getD 3 undef = .pointer (some ⟨Bo, 0, none⟩) := by
  rcases s3 with s3 | s3
  ·cases s3
  ·unfold RelL at s3
   rw [show (F.rp S β Om w).O 24 = _ from hO24] at s3
   obtain ⟨b, h1, h2⟩ := s3
   rw [show (F.rp S β Om w).β 24 = β 24 from rfl, p1] at h1
   cases h1; exact List.cons.inj h2 |>.1
 have t17 : a.tmps.getD 17 undef = .slice (addrOf (β 136).1) rows.length (β 136).2 := by
  rcases s17 with s17 | s17
  ·cases s17
  ·unfold RelL at s17
   rw [show (F.rp S β Om w).O 136 = _ from hO136] at s17
   exact List.cons.inj s17 |>.1
 have hp3 : ao.toList = [.slice (addrOf (β 80).1) k (β 80).2] := by
  obtain ⟨c, d, e1, h1, h2⟩ := p3
  unfold RelL at h1
  rw [show (F.rp S β Om w).O 80 = _ from hO80] at h1
  have h1 : c = [.slice (addrOf (β 80).1) (setRow (List.replicate k (0 : Int)) (IntKind.i64.wrap (n - 1)) 1).length (β 80).2] := h1
  have h2 : d = [] := h2
  rw [e1, h1, h2, hlen]; rfl
 rcases hc.obj 80 _ hO80 with ⟨_, h1⟩ | ⟨Br, o, arr, cs, rest, q1, q2, q3, q4, q5, q6, q7, q8⟩
 ·exfalso; rw [h1] at hlen; simp at hlen; omega
 have q1 : (β 80).1 = some (Br, o) := q1
 have hbr : Br < w.heap.size := (Array.getElem?_eq_some_iff.1 q2).1
 have ngr : Bg ≠ Br := by rintro rfl; have := hc.apart 8 80 _ _ _ _ _ hO8 hO80 rfl rfl g1 q1; omega
 have nor : Bo ≠ Br := by rintro rfl; have := hc.apart 24 80 _ _ _ _ _ hO24 hO80 rfl rfl p1 q1; omega
 have hfar : F.w0.heap.size ≤ Br := (hc.far 80 _ _ _ hO80 rfl q1).resolve_right (hX _)
 have hSS : ∀ b i, S b i → b < w.heap.size ∧ b ≠ Br := by
  intro b i hb
  refine ⟨hc.dom b i hb, ?_⟩
  rintro rfl
  obtain ⟨e, t, xs, h1, _⟩ := hc.still _ _ 80 _ _ hb hO80 rfl q1
  cases h1
 have hrd : ∀ (t : Ty) (cs : List Value) (x : t.V), Rd S w t cs x → Rd (fun b _ => b < w.heap.size ∧ b ≠ Br) w t cs x := fun t cs x h => Rd_mono hSS (fun _ _ _ _ h => h) t h
 have hgd : ∃ ds es, ag.toList = ds ++ es ∧ ds = [.int .i64 n] ∧ Rd (fun b _ => b < w.heap.size ∧ b ≠ Br) w (.sl arcT) es arcs := by
  obtain ⟨c, d, e1, h1, c2, d2, e2, h2, h3⟩ := g3
  have h3 : d2 = [] := h3
  subst h3
  rw [List.append_nil] at e2
  subst e2
  exact ⟨c, d, e1, h1, hrd _ _ _ h2⟩
 have hao : ao = #[.slice (some ⟨Br, o, none⟩) k (β 80).2] := by
  apply Array.toList_inj.1
  rw [hp3, q1]; rfl
 rw [hao] at p2
 have q3' : k ≤ (β 80).2 := by rw [← hlen]; exact q3
 rcases hc.obj 136 _ hO136 with ⟨h1, h2⟩ | ⟨b2, off2, arr2, cs2, rest2, r1, r2, r3, r4, r5, r6, r7, r8⟩
 ·subst h2
  exact ⟨Bg, Bo, Br, o, (β 80).2, ag, _, _, 0, 0, [], hsz, hdf, t1, t3, t17, g2, p2, ngr, nor, hfar, hgd, ⟨arr, cs, rest, q2, q3', q4, rdsInt q5, q6, q7, q8⟩, rfl, fun h => absurd h (Nat.lt_irrefl _), fun j h => absurd h (Nat.not_lt_zero _), fun j l h => by simp at h, hc.os.symm, hc.tape.symm, hc.output.symm, hc.drawn, hc.size, fun k hk => hc.keep k hk (hX k)⟩
 ·have r1 : (β 136).1 = some (b2, off2) := r1
  have hcl : cs2.length = rows.length := by have := RdsOf_len (fun _ _ => Rd_len (.sl (.int .i64))) r5; simpa [Ty.size] using this
  have n2r : b2 ≠ Br := by rintro rfl; have := hc.apart 136 80 _ _ _ _ _ hO136 hO80 rfl rfl r1 q1; omega
  have hvs : ∀ j, j < rows.length → ∃ v, cs2[j]? = some v ∧ arr2.toList[off2 + j]? = some v := by
   intro j hj
   refine ⟨cs2[j]'(by omega), List.getElem?_eq_getElem (by omega), ?_⟩
   have := congrArg (fun l : List Value => l[j]?) r4
   rw [List.getElem?_drop, List.getElem?_append_left (by omega)] at this
   exact this.trans (List.getElem?_eq_getElem (by omega))
  refine ⟨Bg, Bo, Br, o, (β 80).2, ag, _, _, b2, off2, cs2, hsz, hdf, t1, t3, t17, g2, p2, ngr, nor, hfar, hgd, ⟨arr, cs, rest, q2, q3', q4, rdsInt q5, q6, q7, q8⟩, hcl, fun _ => ⟨by rw [r1]; rfl, (Array.getElem?_eq_some_iff.1 r2).1, n2r⟩, ?_, ?_, hc.os.symm, hc.tape.symm, hc.output.symm, hc.drawn, hc.size, fun k hk => hc.keep k hk (hX k)⟩
  ·intro j hj
   obtain ⟨v, h1, h2⟩ := hvs j hj
   have := arr_cells r2 _ v h2
   rw [Nat.zero_add] at this
   rw [h1]; exact this
  ·intro j l hl
   obtain ⟨x, c, z, e1, e2, h3⟩ := RdsOf_at (fun _ _ => Rd_len (.sl (.int .i64))) r5 hl
   have hc1 : c.length = 1 := Rd_len _ h3
   match c, hc1 with
   | [v], _ =>
    have : cs2[j]? = some v := by
     rw [e1, List.getElem?_append_right (by rw [e2]; simp [Ty.size])]
     rw [e2]; simp [Ty.size]
    rw [this]
    exact hrd _ _ _ h3
end Go.Proofs.C10W
end
section
namespace Go.Proofs.C10W
open Go Go.Proofs.R
open Go.RowKit
open Go.Shelf
set_option maxRecDepth 100000
set_option maxHeartbeats 1000000
set_option linter.unusedVariables false
theorem call67 {n : Int} {arcs : List (Int × Int × Int)} {out : List Int} (h : waysV n arcs = some out) : CallOk Try.prog ctx 67 (args0 n arcs) (out, ()) := by
  unfold waysV at h
  simp only [Option.bind_eq_some_iff] at h
  obtain ⟨k, hk, u, hu, t, ht, h⟩ := h
  obtain ⟨hn0, hkn, hkm⟩ := mkLen_some hk
  cases hb : (arcsOk n arcs && t.1.all (rowOk arcs) && Nat.ble t.1.length k) with
  | false => rw [hb] at h; cases h
  | true =>
  rw [hb] at h
  simp only [cond_true, Option.some.injEq] at h
  simp only [Bool.and_eq_true, List.all_eq_true] at hb
  obtain ⟨⟨ha, hrows⟩, hlen⟩ := hb
  have hlen := Nat.le_of_ble_eq_true hlen
  have hkp : 0 < k := by
    obtain ⟨h1, h2, _⟩ := ixAt_some hu
    rw [List.length_replicate] at h2; omega
  obtain ⟨rows, hrw⟩ : ∃ rows, rows = t.1 := ⟨_, rfl⟩
  rw [← hrw] at h hrows hlen
  have hpre : evalC ctx (Einf ctx) 67 46 r0 ⟨initSlots (args0 n arcs) 0, []⟩ (nK L1) = some (ST n arcs k rows) := by
    rw [pre_eval, hk]
    simp only [bindD, Option.bind_some]
    rw [hu]
    simp only [Option.bind_some]
    rw [ht]
    simp only [Option.bind_some, hrw]
  refine ⟨fun w vs => enters_of Try.func67 nm67 body_eq vs w, ?_⟩
  intro w Sf av hSf hr
  have hg0 := entry_good (nt := 46) (args := args0 n arcs) (by show 1 ≤ 46; decide) (by decide) hSf hr
  refine callsIn_wide.1 (callsIn_of_wp_marks (F := Fence.wide) (n := 4) Try.func67 body_eq trivial ?_ rfl)
  rw [nt67]
  have hE := env.env
  have hI := Einf_snd env
  refine wpIn_seq (wpIn_wide.2 (wp_eval hE hI fn67 (r := ST n arcs k rows) (L := L1) ok0 (by rw [nt67]; exact hpre) (by rw [nt67]; exact hg0) ?_))
  intro st1 a1 w1 hg1 h1
  refine wpIn_seq (wpIn_wide.2 (wp_eval hE hI fn67 (r := ST n arcs k rows) (L := L2) ok1 (by rw [nt67]; exact h1) hg1 ?_))
  intro st2 a2 w2 hg2 h2
  refine wpIn_seq (wpIn_wide.2 (wp_eval hE hI fn67 (r := ST n arcs k rows) (L := L3) ok2 (by rw [nt67]; exact h2) hg2 ?_))
  intro st3 a3 w3 hg3 h3
  rw [nt67] at hg3
  refine wpIn_seq (wpIn_seq ?_)
  rw [r3_eq]
  refine wpIn_wide.2 (wp_region ?_)
  rw [ops3_size]
  refine ops_more [0, 1] ops3_same a3 w3 ?_
  have h3' : evalRegion ctx (Einf ctx) 46 ops3a false st3 (nK some) = some (ST n arcs k rows) := h3
  refine region_w hE hI.snd (draw := false) (by intro h; cases h) h3' hg3 ?_
  intro s' a4 w4 hg4 hs
  have hs : s' = ST n arcs k rows := Option.some.inj hs
  subst hs
  obtain ⟨Bg, Bo, Br, o, cap, ag, A, cap2, b2, off2, vs, hsz, hdf, t1, t3, t17, g2, p2, ngr, nor, hfar, ⟨ds, es, e1, e2, hes⟩, ⟨arr, cs, rest, q2, q3, q4, q5, q6, q7, q8⟩, hvl, hA, hvc, hvr, hos, htape, hout, hdr, hsize, hkeep⟩ := snapshot (fun b h => h) hkp hg4
  have hlen0 : (setRow (List.replicate k (0 : Int)) (IntKind.i64.wrap (n - 1)) 1).length = k := by unfold setRow; simp
  have hrun : (execOp a4.eval o3).run Try.prog w4 = .ok (.enter 77 #[.slice A rows.length cap2]) w4 := by
    have e17 : a4.eval (.tmp 17) = .slice A rows.length cap2 := t17
    have h5 : (callFunc 77 #[.slice A rows.length cap2]).run Try.prog w4 = .ok (.enter 77 #[.slice A rows.length cap2]) w4 := enters_of Try.func77 (by kernel_rfl) rfl _ _
    have h3 : a4.eval (.func 77) = .func (.func 77) #[] #[] := rfl
    simp [execOp, o3_op, Go.resolve, Deferred.ofValue, h3, invoke, e17, h5]
  show wpOps Try.prog ops3 _ [2] a4 w4
  unfold wpOps
  rw [ops3_at]
  simp only
  rw [if_pos (by unfold Region.wanted; rw [o3_guard])]
  left
  unfold Oper.wp
  rw [hrun, Oper.upon_enter]
  refine (back_call A rows.length cap2 w4).mono ?_
  rintro e w5 ⟨rfl, hw5⟩
  show (Code.block 0 (.rangeFunc (.tmp 18) #[19, 20] rass rbody)).wpIn Fence.wide 4 Try.prog _ (a4.put o3.dst _) w5
  rw [o3_dst]
  obtain ⟨a5, ha5⟩ : ∃ a5, a5 = a4.put (some 18) (.func (.func 91) #[] #[.pointer (some ⟨w4.heap.size, 0, none⟩)]) := ⟨_, rfl⟩
  rw [← ha5]
  have t5sz : a5.tmps.size = 46 := by rw [ha5]; show (a4.tmps.setIfInBounds _ _).size = 46; simp [hsz]
  have t5 : ∀ d, d ≠ 18 → a5.tmps.getD d undef = a4.tmps.getD d undef := by
    intro d hd; rw [ha5]; exact getD_set (fun h => hd h.symm)
  have t518 : a5.eval (.tmp 18) = .func (.func 91) #[] #[.pointer (some ⟨w4.heap.size, 0, none⟩)] := by
    rw [ha5]; exact getD_set' (by rw [hsz]; omega)
  have hd5 : a5.defers = [] := by rw [ha5]; exact hdf
  have hold : ∀ j, j < w4.heap.size → w5.heap[j]? = w4.heap[j]? := fun j hj => by rw [hw5]; exact Below.heap_alloc _ _ _ hj
  have hnew : w5.heap[w4.heap.size]? = some (.cells #[.slice A rows.length cap2] 37 (0, 0)) := by rw [hw5]; exact World.alloc_heap_new w4 _
  have hs5 : w5.heap.size = w4.heap.size + 1 := by rw [hw5]; exact World.size_alloc _ _
  have hos5 : w5.os = w4.os := by rw [hw5]; rfl
  have htp5 : w5.tape = w4.tape := by rw [hw5]; rfl
  have hou5 : w5.output = w4.output := by rw [hw5]; rfl
  have hdr5 : w5.drawn = w4.drawn := by rw [hw5]; rfl
  clear hw5 ha5
  have hbr : Br < w4.heap.size := (Array.getElem?_eq_some_iff.1 q2).1
  have hbg : Bg < w4.heap.size := (Array.getElem?_eq_some_iff.1 g2).1
  have hbo : Bo < w4.heap.size := (Array.getElem?_eq_some_iff.1 p2).1
  have hcl : ∀ (b i : Nat) (v : Value), (b < w4.heap.size ∧ b ≠ Br) → cellAt w4 b i = some v → cellAt w5 b i = some v := by
    intro b i v hb hc; rw [cellAt_block (hold b hb.1)]; exact hc
  have hSl : ∀ (b i : Nat), (b < w4.heap.size ∧ b ≠ Br) → (b < w5.heap.size ∧ b ≠ Br) := fun b _ hb => ⟨by omega, hb.2⟩
  have hM0 : Mem w5 Br o cap k (setRow (List.replicate k (0 : Int)) (IntKind.i64.wrap (n - 1)) 1) w5 :=
    ⟨rfl, rfl, rfl, Nat.le_refl _, Nat.le_refl _, fun _ _ _ => rfl, by omega, hlen0, arr, cs, rest, (hold _ hbr).trans q2, by rw [hlen0]; exact q3, q4, rdsInt q5, q6, q7, q8⟩
  refine wpIn_block ?_
  refine range_back (n := 4) (len := rows.length) (α := Fin rows.length) (gf := 91) (lb := #[.pointer (some ⟨w4.heap.size, 0, none⟩)]) t518 (enters_of Try.func91 (by kernel_rfl) rfl)
    (fun x => #[.int .i64 (x.val : Int), vs[x.val]?.getD undef]) (fun _ => rfl) (fun xs => xs.map Fin.val = backs rows.length) (KeepB w5.heap.size Br) (fun h k => h.trans k) ?_ ?_
    (fun xs W => Mem w5 Br o cap k (roundsV arcs rows (xs.map Fin.val) (setRow (List.replicate k (0 : Int)) (IntKind.i64.wrap (n - 1)) 1)) W) ?_ ?_ hM0
    (fun x => { tmps := (((a5.tmps.setIfInBounds 19 (.int .i64 (x.val : Int))).setIfInBounds 20 (vs[x.val]?.getD undef)).setIfInBounds 4 (.int .i64 (x.val : Int))).setIfInBounds 5 (vs[x.val]?.getD undef), defers := [] }) ?_ ?_ ?_
  · intro W l ob ob' hl hW hcell
    refine ⟨by simp, fun j h1 h2 => World.putObj_heap_other (by omega)⟩
  · -- the iterator
    intro l J Jx W hsW hsame hY h0
    have hbs : W.cell? ⟨w4.heap.size, 0, none⟩ = some (.slice A rows.length cap2) := by
      have h6 : W.heap[w4.heap.size]? = _ := (hsame _ (by omega)).trans hnew
      have := arr_cells h6 0 _ rfl
      exact this
    have hcc : ∀ j : Nat, j < rows.length → W.cell? ⟨b2, off2 + j, none⟩ = some (vs[j]?.getD undef) := by
      intro j hj
      obtain ⟨_, h7, _⟩ := hA (by omega)
      have h6 : W.heap[b2]? = w4.heap[b2]? := (hsame _ (by omega)).trans (hold _ h7)
      rw [World.cell?_of_block (a := ⟨b2, off2 + j, none⟩) h6]
      exact hvc j hj
    refine (back1_in Fence.wide 3 trivial rfl (by omega) l w4.heap.size w5.heap.size Br b2 off2 rows.length cap2 vs hvl (by omega) (fun h => ⟨by have := (hA h).2.1; omega, (hA h).2.2⟩) ⟨by omega, by omega⟩ J Jx A (fun h => (hA h).1) hY W hbs hcc h0).mono ?_
    rintro e W' ⟨he, ⟨ys, hys, hJ⟩ | ⟨pre, _, hJ⟩⟩
    · exact ⟨he, .inl ⟨ys, hys, hJ⟩⟩
    · exact ⟨he, .inr ⟨pre, hJ⟩⟩
  · intro xs W ob hm _; exact hm.alloc ob
  · intro xs W l ob ob' hm hl _ _; exact hm.putObj hl ob'
  · intro l x W K hK
    exact assign_ok t5sz hK
  · -- a round
    intro l pre x W hm _
    have hrow : rows[x.val]? = some rows[x.val] := List.getElem?_eq_getElem x.isLt
    have hv := hvr x.val _ hrow
    have hge : ∀ d, d ≠ 5 → d ≠ 4 → d ≠ 20 → d ≠ 19 → d ≠ 18 → ((((a5.tmps.setIfInBounds 19 (.int .i64 (x.val : Int))).setIfInBounds 20 (vs[x.val]?.getD undef)).setIfInBounds 4 (.int .i64 (x.val : Int))).setIfInBounds 5 (vs[x.val]?.getD undef)).getD d undef = a4.tmps.getD d undef := by
      intro d h1 h2 h3 h4 h5
      rw [getD_set (fun h => h1 h.symm), getD_set (fun h => h2 h.symm), getD_set (fun h => h3 h.symm), getD_set (fun h => h4 h.symm), t5 d h5]
    have := round_ok (n := n) (arcs := arcs) (W5 := w5) (Br := Br) (o := o) (cap := cap) (k := k) hkn ha hm (m := x.val) (by have := x.isLt; omega) (l := rows[x.val]) (hrows _ (List.getElem_mem _)) (v := vs[x.val]?.getD undef)
      (Rd_mono hSl hcl _ hv) (Bg := Bg) (Bo := Bo) (ag := ag) ((hold _ hbg).trans g2) ⟨by omega, ngr⟩ ⟨ds, es, e1, e2, es, [], by simp, Rd_mono hSl hcl (.sl arcT) hes, rfl⟩ ((hold _ hbo).trans p2) ⟨by omega, nor⟩
      (a := { tmps := (((a5.tmps.setIfInBounds 19 (.int .i64 (x.val : Int))).setIfInBounds 20 (vs[x.val]?.getD undef)).setIfInBounds 4 (.int .i64 (x.val : Int))).setIfInBounds 5 (vs[x.val]?.getD undef), defers := [] })
      (by simp [t5sz]) rfl ((hge 1 (by decide) (by decide) (by decide) (by decide) (by decide)).trans t1) ((hge 3 (by decide) (by decide) (by decide) (by decide) (by decide)).trans t3)
      (by show Array.getD _ 4 undef = _
          rw [getD_set (by omega), getD_set' (by simp; omega)])
      (by show Array.getD _ 5 undef = _
          rw [getD_set' (by simp; omega)]) l (4 - 1 - 1)
    refine wpIn_mono this ?_
    rintro e a' W' ⟨rfl, h5, h6, h7⟩
    refine ⟨rfl, h5, h6, ?_⟩
    rw [List.map_append]
    show Mem _ _ _ _ _ (roundsV arcs rows (pre.map Fin.val ++ [x.val]) _) W'
    rw [roundsV_snoc, hrow]
    exact h7
  · -- behind the range
    intro D xs W hD hxs hm hdef
    rw [hxs, h] at hm
    show (Code.seq r11 .ret).wpIn Fence.wide 4 Try.prog _ { a5 with defers := { target := .collected D, args := #[] } :: a5.defers } W
    refine wpIn_seq ?_
    rw [r11_eq]
    refine wpIn_region ?_
    rw [ops11_size]
    have hcell : cellAt W Bo 0 = some (.slice (some ⟨Br, o, none⟩) k cap) := by
      have h6 : W.heap[Bo]? = _ := (hm.keep Bo (by omega) nor).trans ((hold _ hbo).trans p2)
      exact arr_cells h6 0 _ rfl
    refine ops_value ops11_0 oA_op.2.2 oA_op.2.1 (fun c h => by rw [oA_op.1] at h; cases h) (fun _ _ => trivial) (exec_load1 oA_op.1 (hE.te 75 te75 te75_at) te75_ag (b := Bo) ((t5 3 (by decide)).trans t3) hcell) ?_
    refine ops_value ops11_1 oB_op.2.2 oB_op.2.1 (fun c h => by rw [oB_op.1] at h; cases h) (fun _ _ => trivial) (exec_assign oB_op.1 _ _) ?_
    refine wpIn_ret ?_
    have hv2 : (((a5.tmps.setIfInBounds 45 (.slice (some ⟨Br, o, none⟩) k cap)).setIfInBounds 2 (Act.eval { tmps := a5.tmps.setIfInBounds 45 (.slice (some ⟨Br, o, none⟩) k cap), defers := { target := .collected D, args := #[] } :: a5.defers } (.tmp 45)))).getD 2 undef = .slice (some ⟨Br, o, none⟩) k cap := by
      rw [getD_set' (by simp [t5sz])]
      exact getD_set' (by rw [t5sz]; omega)
    show LeavesInM _ _ _ _ _ _ ({ target := .collected D, args := #[] } :: a5.defers) .returning W
    rw [hd5]
    refine ⟨by simp, .inl ⟨_, _, rfl, run_takeDeferred hdef, ?_⟩⟩
    refine ⟨_, results_tmp res67 _ _ _, ?_⟩
    have hob : ∀ j, j < w5.heap.size → (W.putObj D (.deferred none)).heap[j]? = W.heap[j]? := fun j hj => World.putObj_heap_other (by omega)
    refine ⟨Sf, β2 Br o cap, lkp (O2 out), [.slice (some ⟨Br, o, none⟩) k cap], [.slice (some ⟨Br, o, none⟩) k cap], [7], congrArg Ending.returned hv2, ?_, ?_, by simp, ?_⟩
    · constructor
      · exact hm.os.trans (hos5.trans hos.symm)
      · exact hm.tape.trans (htp5.trans htape.symm)
      · exact hm.output.trans (hou5.trans hout.symm)
      · exact Nat.le_trans hdr (by rw [← hdr5]; exact hm.drawn)
      · show w.heap.size ≤ (W.putObj D (.deferred none)).heap.size
        have h9 := hm.size
        have h10 : w.heap.size ≤ w4.heap.size := hsize
        have : (W.putObj D (.deferred none)).heap.size = W.heap.size := by simp
        omega
      · intro j hj _
        have hj : j < w.heap.size := hj
        have h10 : w.heap.size ≤ w4.heap.size := hsize
        have h11 : w.heap.size ≤ Br := hfar
        exact (hob j (by omega)).trans ((hm.keep j (by omega) (by omega)).trans ((hold j (by omega)).trans (hkeep j hj)))
      · intro m ob hO
        obtain ⟨rfl, rfl⟩ := O2_some hO
        obtain ⟨arr, cs, rest, h1, h2, h3, h4, h5⟩ := hm.row
        exact .inr ⟨Br, o, arr, cs, rest, rfl, (hob Br (by omega)).trans h1, h2, h3, rdsInt h4, h5⟩
      · intro m ob b off hO _ hb
        obtain ⟨rfl, rfl⟩ := O2_some hO
        cases hb
        exact .inl hfar
      · intro m m' ob o' b x y hO hm' _ _ _ _
        obtain ⟨rfl, _⟩ := O2_some hO
        obtain ⟨rfl, _⟩ := O2_some hm'
        rfl
      · exact fun _ _ h => h
      · exact fun _ _ h => .inl h
      · intro b i hb
        have h9 := hm.size
        have h10 : w.heap.size ≤ w4.heap.size := hsize
        have h11 := hSf b i hb
        have : (W.putObj D (.deferred none)).heap.size = W.heap.size := by simp
        omega
      · intro b i m ob off hb hO _ hp
        obtain ⟨rfl, rfl⟩ := O2_some hO
        cases hp
        have h11 := hSf _ i hb
        have h12 : w.heap.size ≤ Br := hfar
        omega
      · intro m e t xs b off i hO
        obtain ⟨_, h2⟩ := O2_some hO
        cases h2
    · refine .inl ⟨7, [], [], false, rfl, rfl, fun _ => rfl, ?_, rfl, rfl⟩
      show [Value.slice (some ⟨Br, o, none⟩) k cap] = [.slice (addrOf (some (Br, o))) out.length cap]
      rw [hm.len]; rfl
    · exact ⟨[.slice (some ⟨Br, o, none⟩) k cap], [], _, [], rfl, rfl, rfl, rfl, rfl, rfl⟩
theorem ways_ok {args : List AV} {r : HV (rsTys ((ctx.ret 67).flatMap (·.2)))} (h : waysG.run args (castHV _) = some r) : CallOk Try.prog ctx 67 args r := by
 have h : waysR args (castHV _) = some r := h
 unfold waysR at h
 split at h
 ·rename_i n t xs
  simp only [Option.bind_eq_some_iff] at h
  obtain ⟨arcs, h1, out, h2, h3⟩ := h
  obtain ⟨e, h4⟩ := castV_eq h1
  subst e
  simp only at h4
  subst h4
  have h5 := call67 h2
  have h6 : r = (out, ()) := by
   have h3 : castHV [.sl (.int .i64)] [⟨.sl (.int .i64), out⟩] = some r := h3
   simp only [castHV, castV_same, Option.bind_some] at h3
   exact (Option.some.inj h3).symm
  rw [h6]; exact h5
 ·cases h
end Go.Proofs.C10W
end
