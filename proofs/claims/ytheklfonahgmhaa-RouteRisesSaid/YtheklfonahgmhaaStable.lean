/- slices.SortStableFunc at ints: what it does with a row. No condition. -/
import Derived.Test.YtheklfonahgmhaaC10W
import Derived.Test.YtheklfonahgmhaaMachine4
import Derived.Test.YtheklfonahgmhaaSorts
set_option linter.unusedVariables false
set_option linter.unusedSimpArgs false
section
namespace Go.Proofs.C10
open Go Go.Proofs.R
open Go.Shelf Go.RowKit Go.Lib Go.Sort
set_option linter.unusedVariables false
set_option linter.unusedSectionVars false
set_option linter.unusedSimpArgs false
variable {α : Type} [Inhabited α]
set_option maxHeartbeats 4000000 in
set_option maxRecDepth 1000000 in
theorem swapRange_ok (enc : α → Value) (g : Nat) (cb : Array Value) (blk off cap a b n : Nat) (d0 d : Array α) (w0 w : World)
  (R : Row1 enc w0 blk off d0) (hs : d0.size = d.size) (S : SW enc w0 blk off d w) (hab : a + n ≤ b) (hb : b + n ≤ d.size) (hsz : d.size < 4611686018427387904) :
  Calls Try.prog 99 #[.slice (some ⟨blk, off, none⟩) d.size cap, .int .i64 a, .int .i64 b, .int .i64 n, .func (.func g) #[] cb] w fun e w' => e = .returned (.tuple #[]) ∧ SW enc w0 blk off (swapFrom a b n 0 d) w' := by
 have mixed : Try.prog.follows .mixedOrders = true := by kernel_rfl
 have hcl0 := R.hO.cells
 simp only [Value.cells] at hcl0
 have hst := R.hO.store Try.prog
 have S0 : Aside (SW enc w0 blk off d w) := S
 clear S
 go_enter Try.func99, Try.ntmps99
 go_wp2
 go_loopg [10] n (fun kx s10 wr => ∃ (i : Nat) (dk : Array α), s10 = .int .i64 i ∧ i ≤ n ∧ n - i ≤ kx ∧ dk.size = d.size ∧ Aside (SW enc w0 blk off dk wr) ∧ Hid (swapFrom a b n i dk = swapFrom a b n 0 d))
 case atStart => exact ⟨0, d, rfl, by omega, by omega, rfl, S0, rfl⟩
 case round =>
  clear S0
  obtain ⟨i, dk, rfl, hin, hkx, hds, S1, HE⟩ := hrel
  by_cases hlt : i < n
  ·have hltz : (i : Int) < (n : Int) := by omega
   obtain ⟨iN1, hiN1⟩ : ∃ q, q = a + i := ⟨_, rfl⟩
   obtain ⟨jN1, hjN1⟩ : ∃ q, q = b + i := ⟨_, rfl⟩
   have ea1 : ((a : Int) + (i : Int)).toNat = iN1 := by omega
   have pa1 : (0 : Int) ≤ (a : Int) + (i : Int) := by omega
   have ba1 : (a : Int) + (i : Int) < (d.size : Int) := by omega
   have ra1 : IntKind.i64.wrap ((a : Int) + (i : Int)) = (a : Int) + (i : Int) := by rw [IntKind.wrap_i64]; omega
   have ec1 : ((b : Int) + (i : Int)).toNat = jN1 := by omega
   have pc1 : (0 : Int) ≤ (b : Int) + (i : Int) := by omega
   have bc1 : (b : Int) + (i : Int) < (d.size : Int) := by omega
   have rc1 : IntKind.i64.wrap ((b : Int) + (i : Int)) = (b : Int) + (i : Int) := by rw [IntKind.wrap_i64]; omega
   obtain ⟨x1, hx1⟩ : ∃ x, x = dk[a + i]! := ⟨_, rfl⟩
   obtain ⟨y1, hy1⟩ : ∃ x, x = dk[b + i]! := ⟨_, rfl⟩
   have S2 : Aside (SW enc w0 blk off (swp dk (a + i) (b + i)) ((wr.setCell ⟨blk, off + iN1, none⟩ (enc y1)).setCell ⟨blk, off + jN1, none⟩ (enc x1)).drew) := by rw [hiN1, hjN1, hx1, hy1]; exact S1.out.swapped R (a + i) (b + i) (by omega) (by omega)
   have c1a := S1.out.c1 R (by omega) (a + i) (by omega)
   have c1b := S1.out.c1 R (by omega) (b + i) (by omega)
   have f1a := S1.out.f1 R (by omega) (a + i) (by omega)
   have f1b := S1.out.f1 R (by omega) (b + i) (by omega)
   obtain ⟨u1, c1c⟩ := S1.out.c2 R (by omega) (a + i) (b + i) (by omega) (by omega) (enc y1)
   rw [← hjN1, ← hiN1] at c1c
   rw [← hx1, ← hiN1] at c1a
   rw [← hy1, ← hjN1] at c1b
   rw [← hiN1] at f1a
   rw [← hjN1] at f1b
   clear S1 hx1 hy1 hiN1 hjN1
   go_wp2_with fail
   go_big_region_o
   clear c1a c1b c1c f1a f1b
   generalize ((wr.setCell ⟨blk, off + iN1, none⟩ (enc y1)).setCell ⟨blk, off + jN1, none⟩ (enc x1)).drew = w2 at S2 ⊢
   clear ea1 ec1
   go_wp2
   go_roundg (n - (i + 1))
   case measure => omega
   case rel => exact ⟨i + 1, swp dk (a + i) (b + i), by simp, by omega, Nat.le_refl _, by rw [size_swp]; exact hds, S2, (show Hid _ from by rw [← HE.out, swapFrom_go hlt]; exact rfl)⟩
  ·have hltz : ¬ (i : Int) < (n : Int) := by omega
   go_wp2
   go_end0
   exact ⟨rfl, by rw [← HE.out, swapFrom_stop hlt]; exact S1.out⟩
end Go.Proofs.C10
end
section
namespace Go.Proofs.C10
open Go Go.Proofs.R
open Go.Shelf Go.RowKit Go.Lib Go.Sort
set_option linter.unusedVariables false
set_option linter.unusedSectionVars false
set_option linter.unusedSimpArgs false
variable {α : Type} [Inhabited α]
set_option maxHeartbeats 4000000 in
set_option maxRecDepth 1000000 in
theorem rotate_ok (enc : α → Value) (g : Nat) (cb : Array Value) (blk off cap a m b : Nat) (d0 d : Array α) (w0 w : World)
  (R : Row1 enc w0 blk off d0) (hs : d0.size = d.size) (S : SW enc w0 blk off d w) (ham : a < m) (hmb : m < b) (hb : b ≤ d.size) (hsz : d.size < 4611686018427387904) :
  Calls Try.prog 97 #[.slice (some ⟨blk, off, none⟩) d.size cap, .int .i64 a, .int .i64 m, .int .i64 b, .func (.func g) #[] cb] w fun e w' => e = .returned (.tuple #[]) ∧ ∃ d', SW enc w0 blk off d' w' ∧ RotD d d' a m b := by
 have mixed : Try.prog.follows .mixedOrders = true := by kernel_rfl
 have e1 : ∀ args w, (callFunc 99 args).run Try.prog w = .ok (.enter 99 args) w := enters_of Try.func99 (by kernel_rfl) rfl
 have S0 : Aside (SW enc w0 blk off d w) := S
 clear S
 have ei : ((m - a : Nat) : Int) = (m : Int) - (a : Int) := by omega
 have ej : ((b - m : Nat) : Int) = (b : Int) - (m : Int) := by omega
 go_enter Try.func97, Try.ntmps97
 go_wp2
 go_loopg [10, 11] (b - a) (fun kx s10 s11 wr => ∃ (i j : Nat) (dk : Array α), s10 = .int .i64 i ∧ s11 = .int .i64 j ∧ i + j ≤ kx ∧ dk.size = d.size ∧ Aside (SW enc w0 blk off dk wr) ∧ 0 < i ∧ 0 < j ∧ a + i ≤ m ∧ m + j ≤ b ∧ Hid (RotW d dk a m b i j))
 case atStart => exact ⟨m - a, b - m, d, (by first | rfl | rw [ei]), (by first | rfl | rw [ej]), by omega, rfl, S0, by omega, by omega, by omega, by omega, RotW.start ham hmb⟩
 case round =>
  clear S0
  obtain ⟨i, j, dk, rfl, rfl, hkx, hds, S1, hi0, hj0, hil, hjl, HW⟩ := hrel
  have emi : ((m - i : Nat) : Int) = (m : Int) - (i : Int) := by omega
  by_cases hij : i = j
  ·subst hij
   have hcall := swapRange_ok enc g cb blk off cap (m - i) m i d0 dk w0 wr R (by omega) S1.out (by omega) (by omega) (by omega)
   rw [emi, hds] at hcall
   clear S1
   go_wp2_with (go_at_fn 99; refine hcall.mono ?_; rintro e w1 ⟨rfl, S3⟩)
   go_end0
   exact ⟨rfl, _, S3, HW.out.done hb⟩
  ·have hne : ((i : Int) == (j : Int)) = false := by simp; omega
   have hne' : ¬ (i : Int) = (j : Int) := by omega
   by_cases hlt : j < i
   ·have hltz : (j : Int) < (i : Int) := by omega
    have hcall := swapRange_ok enc g cb blk off cap (m - i) m j d0 dk w0 wr R (by omega) S1.out (by omega) (by omega) (by omega)
    rw [emi, hds] at hcall
    clear S1
    go_wp2_with (go_at_fn 99; refine hcall.mono ?_; rintro e w1 ⟨rfl, S3⟩)
    go_roundg (i - j + j)
    case measure => omega
    case rel => exact ⟨i - j, j, _, (by first | rfl | rw [show ((i : Int) - (j : Int)) = ((i - j : Nat) : Int) by omega]), rfl, Nat.le_refl _, by rw [swapFrom_size _ _ _ _ _ _ (Nat.le_refl _)]; exact hds, S3, by omega, hj0, by omega, hjl, HW.out.gt hb hlt⟩
   ·have hltz : ¬ (j : Int) < (i : Int) := by omega
    have emj : ((m + j - i : Nat) : Int) = (m : Int) + (j : Int) - (i : Int) := by omega
    have hcall := swapRange_ok enc g cb blk off cap (m - i) (m + j - i) i d0 dk w0 wr R (by omega) S1.out (by omega) (by omega) (by omega)
    rw [emi, emj, hds] at hcall
    clear S1
    go_wp2_with (go_at_fn 99; refine hcall.mono ?_; rintro e w1 ⟨rfl, S3⟩)
    go_roundg (i + (j - i))
    case measure => omega
    case rel => exact ⟨i, j - i, _, rfl, (by first | rfl | rw [show ((j : Int) - (i : Int)) = ((j - i : Nat) : Int) by omega]), Nat.le_refl _, by rw [swapFrom_size _ _ _ _ _ _ (Nat.le_refl _)]; exact hds, S3, hi0, by omega, hil, by omega, HW.out.lt hb (by omega)⟩
def SymSpec (enc : α → Value) (cf : α → α → Int) (lt : α → α → Prop) (g : Nat) (cb : Array Value) (blk off cap : Nat) (d0 : Array α) (w0 : World) (N : Nat) : Prop :=
 ∀ (a m b : Nat) (d : Array α) (w : World), b - a ≤ N → d0.size = d.size → SW enc w0 blk off d w → a < m → m < b → b ≤ d.size → MergeIn lt cf d a m b →
  Calls Try.prog 90 #[.slice (some ⟨blk, off, none⟩) d.size cap, .int .i64 a, .int .i64 m, .int .i64 b, .func (.func g) #[] cb] w fun e w' => e = .returned (.tuple #[]) ∧ ∃ d', SW enc w0 blk off d' w' ∧ Merged lt d d' a b
end Go.Proofs.C10
end
section
namespace Go.Proofs.C10
open Go Go.Proofs.R
open Go.Shelf Go.RowKit Go.Lib Go.Sort
set_option linter.unusedVariables false
set_option linter.unusedSectionVars false
set_option linter.unusedSimpArgs false
variable {α : Type} [Inhabited α]
set_option maxHeartbeats 64000000 in
set_option maxRecDepth 1000000 in
theorem sym_first (enc : α → Value) (cf : α → α → Int) (lt : α → α → Prop) (tr : ∀ x y z, lt x y → lt y z → lt x z) (g : Nat) (cb : Array Value) (blk off cap : Nat) (d0 : Array α) (w0 : World)
  (eg : ∀ args w, (callFunc g args).run Try.prog w = .ok (.enter g args) w) (hcmp : CmpLays1 Try.prog g cb enc cf blk off d0.size w0) (R : Row1 enc w0 blk off d0) (hsz0 : d0.size < 4611686018427387904)
  (a m b : Nat) (d : Array α) (w : World) (hs : d0.size = d.size) (S : SW enc w0 blk off d w) (ham : a < m) (hmb : m < b) (hb : b ≤ d.size) (hM : MergeIn lt cf d a m b) (hm1 : m = a + 1) :
  Calls Try.prog 90 #[.slice (some ⟨blk, off, none⟩) d.size cap, .int .i64 a, .int .i64 m, .int .i64 b, .func (.func g) #[] cb] w fun e w' => e = .returned (.tuple #[]) ∧ ∃ d', SW enc w0 blk off d' w' ∧ Merged lt d d' a b := by
 have mixed : Try.prog.follows .mixedOrders = true := by kernel_rfl
 have eS : ∀ args w, (callFunc 90 args).run Try.prog w = .ok (.enter 90 args) w := enters_of Try.func90 (by kernel_rfl) rfl
 have eR : ∀ args w, (callFunc 97 args).run Try.prog w = .ok (.enter 97 args) w := enters_of Try.func97 (by kernel_rfl) rfl
 have hcl0 := R.hO.cells
 simp only [Value.cells] at hcl0
 have hst := R.hO.store Try.prog
 have hsz : d.size < 4611686018427387904 := by omega
 have HC : Aside _ := hcmp
 have HM : Hid (MergeIn lt cf d a m b) := hM
 have TR : Hid (∀ x y z, lt x y → lt y z → lt x z) := tr
 have S0 : Aside (SW enc w0 blk off d w) := S
 clear S hM hcmp tr
 have hm2 : m ≤ a + 1 := by omega
 have zm1 : (m : Int) - (a : Int) = 1 := by omega
 have HM1 : Aside (m = a + 1) := hm1
 clear hm1
 go_enter Try.func90, Try.ntmps90
 go_wp2
 go_loopg [10, 11] (b - m) (fun kx s10 s11 wr => ∃ (i j : Nat), s10 = .int .i64 i ∧ s11 = .int .i64 j ∧ m ≤ i ∧ i ≤ j ∧ j ≤ b ∧ j - i ≤ kx ∧ Aside (SW enc w0 blk off d wr) ∧ BsA cf d a m b i j)
 case atStart => exact ⟨m, b, rfl, rfl, Nat.le_refl _, by omega, Nat.le_refl _, Nat.le_refl _, S0, ⟨.inl rfl, .inl rfl⟩⟩
 case round =>
  clear S0
  obtain ⟨i, j, rfl, rfl, hai, hij, hjb, hkx, S1, HB⟩ := hrel
  by_cases hlt : i < j
  ·have hltz : (i : Int) < (j : Int) := by omega
   by_cases hlv0 : cf d[(i + j) / 2]! d[a]! < 0
   ·have HLV : Hid _ := hlv0
    clear hlv0
    go_wp2_with fail
    obtain ⟨iN11, hiN11⟩ : ∃ q, q = (i + j) / 2 := ⟨_, rfl⟩
    obtain ⟨jN11, hjN11⟩ : ∃ q, q = a := ⟨_, rfl⟩
    have ea11 : (((i : Int) + (j : Int)) / 2).toNat = iN11 := by omega
    have pa11 : (0 : Int) ≤ ((i : Int) + (j : Int)) / 2 := by omega
    have ba11 : ((i : Int) + (j : Int)) / 2 < (d.size : Int) := by omega
    have ra11 : IntKind.i64.wrap (((i : Int) + (j : Int)) / 2) = ((i : Int) + (j : Int)) / 2 := by rw [IntKind.wrap_i64]; omega
    have ec11 : ((a : Int)).toNat = jN11 := by omega
    have pc11 : (0 : Int) ≤ (a : Int) := by omega
    have bc11 : (a : Int) < (d.size : Int) := by omega
    have rc11 : IntKind.i64.wrap ((a : Int)) = (a : Int) := by rw [IntKind.wrap_i64]; omega
    obtain ⟨x11, hx11⟩ : ∃ x, x = d[(i + j) / 2]! := ⟨_, rfl⟩
    obtain ⟨y11, hy11⟩ : ∃ x, x = d[a]! := ⟨_, rfl⟩
    have l11a := S1.out.cl R (by omega) ((i + j) / 2) (by omega)
    have l11b := S1.out.cl R (by omega) (a) (by omega)
    rw [← hx11, ← hiN11] at l11a
    rw [← hy11, ← hjN11] at l11b
    have hc11 := S1.out.cmp HC.out (by omega) x11 y11
    have hv11 : cf x11 y11 < 0 := by rw [hx11, hy11]; exact HLV.out
    have hd11 : decide (cf x11 y11 < 0) = true := decide_eq_true hv11
    clear hx11 hy11 hiN11 hjN11
    go_wp2_with fail
    go_quiet_grown (first | (go_at_fn g; refine Calls.grown_of (hc11 _ _)))
    have S2 : Aside (SW enc w0 blk off d (grow (wr.drewN nq) osq)) := S1.out.grown nq osq
    clear l11a l11b hc11 S1
    generalize grow (wr.drewN nq) osq = w2 at S2 ⊢
    clear nq osq
    clear ea11 ec11
    go_wp2
    go_roundg (j - ((i + j) / 2 + 1))
    case measure => omega
    case rel => exact ⟨(i + j) / 2 + 1, j, (by rw [show ((i : Int) + (j : Int)) / 2 + 1 = (((i + j) / 2 + 1 : Nat) : Int) by omega]), rfl, by omega, by omega, hjb, Nat.le_refl _, S2, ⟨.inr (by simpa using HLV.out), HB.h⟩⟩
   ·have HLV : Hid _ := hlv0
    clear hlv0
    go_wp2_with fail
    obtain ⟨iN12, hiN12⟩ : ∃ q, q = (i + j) / 2 := ⟨_, rfl⟩
    obtain ⟨jN12, hjN12⟩ : ∃ q, q = a := ⟨_, rfl⟩
    have ea12 : (((i : Int) + (j : Int)) / 2).toNat = iN12 := by omega
    have pa12 : (0 : Int) ≤ ((i : Int) + (j : Int)) / 2 := by omega
    have ba12 : ((i : Int) + (j : Int)) / 2 < (d.size : Int) := by omega
    have ra12 : IntKind.i64.wrap (((i : Int) + (j : Int)) / 2) = ((i : Int) + (j : Int)) / 2 := by rw [IntKind.wrap_i64]; omega
    have ec12 : ((a : Int)).toNat = jN12 := by omega
    have pc12 : (0 : Int) ≤ (a : Int) := by omega
    have bc12 : (a : Int) < (d.size : Int) := by omega
    have rc12 : IntKind.i64.wrap ((a : Int)) = (a : Int) := by rw [IntKind.wrap_i64]; omega
    obtain ⟨x12, hx12⟩ : ∃ x, x = d[(i + j) / 2]! := ⟨_, rfl⟩
    obtain ⟨y12, hy12⟩ : ∃ x, x = d[a]! := ⟨_, rfl⟩
    have l12a := S1.out.cl R (by omega) ((i + j) / 2) (by omega)
    have l12b := S1.out.cl R (by omega) (a) (by omega)
    rw [← hx12, ← hiN12] at l12a
    rw [← hy12, ← hjN12] at l12b
    have hc12 := S1.out.cmp HC.out (by omega) x12 y12
    have hv12 : ¬ cf x12 y12 < 0 := by rw [hx12, hy12]; exact HLV.out
    have hd12 : decide (cf x12 y12 < 0) = false := decide_eq_false hv12
    clear hx12 hy12 hiN12 hjN12
    go_wp2_with fail
    go_quiet_grown (first | (go_at_fn g; refine Calls.grown_of (hc12 _ _)))
    have S2 : Aside (SW enc w0 blk off d (grow (wr.drewN nq) osq)) := S1.out.grown nq osq
    clear l12a l12b hc12 S1
    generalize grow (wr.drewN nq) osq = w2 at S2 ⊢
    clear nq osq
    clear ea12 ec12
    go_wp2
    go_roundg ((i + j) / 2 - i)
    case measure => omega
    case rel => exact ⟨i, (i + j) / 2, rfl, (by rw [show ((i : Int) + (j : Int)) / 2 = (((i + j) / 2 : Nat) : Int) by omega]), hai, by omega, by omega, Nat.le_refl _, S2, ⟨HB.l, .inr HLV.out⟩⟩
  ·have hltz : ¬ (i : Int) < (j : Int) := by omega
   obtain rfl : j = i := by omega
   obtain ⟨e, he⟩ : ∃ e, e = j - 1 := ⟨j - 1, rfl⟩
   have FIN : Hid (Merged lt d (shiftR e a d) a b) := by rw [he]; exact Merged.first TR.out HM.out HM1.out hb hai hjb HB.l HB.h
   have ze : (j : Int) - 1 = (e : Int) := by omega
   have he1 : e + 1 ≤ j := by omega
   have he2 : j ≤ e + 1 := by omega
   clear he
   clear HB
   go_wp2
   go_loopg [13] (e - a) (fun kx s13 wr => ∃ (k : Nat) (dk : Array α), s13 = .int .i64 k ∧ a ≤ k ∧ k ≤ e ∧ e - k ≤ kx ∧ dk.size = d.size ∧ Aside (SW enc w0 blk off dk wr) ∧ Hid (shiftR e k dk = shiftR e a d))
   case atStart => exact ⟨a, d, rfl, Nat.le_refl _, by omega, Nat.le_refl _, rfl, S1, rfl⟩
   case round =>
    clear S1
    obtain ⟨k, dk, rfl, hak, hke, hkx2, hds, S1, HE⟩ := hrel
    by_cases hlt2 : k < e
    ·have hltz2 : (k : Int) < (e : Int) := by omega
     obtain ⟨iN13, hiN13⟩ : ∃ q, q = k := ⟨_, rfl⟩
     obtain ⟨jN13, hjN13⟩ : ∃ q, q = k + 1 := ⟨_, rfl⟩
     have ea13 : ((k : Int)).toNat = iN13 := by omega
     have pa13 : (0 : Int) ≤ (k : Int) := by omega
     have ba13 : (k : Int) < (d.size : Int) := by omega
     have ra13 : IntKind.i64.wrap ((k : Int)) = (k : Int) := by rw [IntKind.wrap_i64]; omega
     have ec13 : ((k : Int) + 1).toNat = jN13 := by omega
     have pc13 : (0 : Int) ≤ (k : Int) + 1 := by omega
     have bc13 : (k : Int) + 1 < (d.size : Int) := by omega
     have rc13 : IntKind.i64.wrap ((k : Int) + 1) = (k : Int) + 1 := by rw [IntKind.wrap_i64]; omega
     obtain ⟨x13, hx13⟩ : ∃ x, x = dk[k]! := ⟨_, rfl⟩
     obtain ⟨y13, hy13⟩ : ∃ x, x = dk[k + 1]! := ⟨_, rfl⟩
     have S2 : Aside (SW enc w0 blk off (swp dk (k) (k + 1)) ((wr.setCell ⟨blk, off + iN13, none⟩ (enc y13)).setCell ⟨blk, off + jN13, none⟩ (enc x13)).drew) := by rw [hiN13, hjN13, hx13, hy13]; exact S1.out.swapped R (k) (k + 1) (by omega) (by omega)
     have c13a := S1.out.c1 R (by omega) (k) (by omega)
     have c13b := S1.out.c1 R (by omega) (k + 1) (by omega)
     have f13a := S1.out.f1 R (by omega) (k) (by omega)
     have f13b := S1.out.f1 R (by omega) (k + 1) (by omega)
     obtain ⟨u13, c13c⟩ := S1.out.c2 R (by omega) (k) (k + 1) (by omega) (by omega) (enc y13)
     rw [← hjN13, ← hiN13] at c13c
     rw [← hx13, ← hiN13] at c13a
     rw [← hy13, ← hjN13] at c13b
     rw [← hiN13] at f13a
     rw [← hjN13] at f13b
     clear S1 hx13 hy13 hiN13 hjN13
     go_wp2_with fail
     go_big_region_o
     clear c13a c13b c13c f13a f13b
     generalize ((wr.setCell ⟨blk, off + iN13, none⟩ (enc y13)).setCell ⟨blk, off + jN13, none⟩ (enc x13)).drew = w2 at S2 ⊢
     clear ea13 ec13
     go_wp2
     go_roundg (e - (k + 1))
     case measure => omega
     case rel => exact ⟨k + 1, swp dk k (k + 1), by first | rfl | go_num, by omega, by omega, Nat.le_refl _, by rw [size_swp]; exact hds, S2, (show Hid _ from by rw [← HE.out, shiftR_go hlt2]; exact rfl)⟩
    ·have hltz2 : ¬ (k : Int) < (e : Int) := by omega
     go_wp2
     (try simp only [Exit.inBlock, Exit.then]); refine bodyPost_ret (results_none rfl _ _ _) rfl ?_
     exact ⟨rfl, dk, S1.out, by rw [show dk = shiftR e a d from by rw [← HE.out, shiftR_stop hlt2]]; exact FIN.out⟩
end Go.Proofs.C10
end
section
namespace Go.Proofs.C10
open Go Go.Proofs.R
open Go.Shelf Go.RowKit Go.Lib Go.Sort
set_option linter.unusedVariables false
set_option linter.unusedSectionVars false
set_option linter.unusedSimpArgs false
variable {α : Type} [Inhabited α]
set_option maxHeartbeats 64000000 in
set_option maxRecDepth 1000000 in
theorem sym_last (enc : α → Value) (cf : α → α → Int) (lt : α → α → Prop) (tr : ∀ x y z, lt x y → lt y z → lt x z) (g : Nat) (cb : Array Value) (blk off cap : Nat) (d0 : Array α) (w0 : World)
  (eg : ∀ args w, (callFunc g args).run Try.prog w = .ok (.enter g args) w) (hcmp : CmpLays1 Try.prog g cb enc cf blk off d0.size w0) (R : Row1 enc w0 blk off d0) (hsz0 : d0.size < 4611686018427387904)
  (a m b : Nat) (d : Array α) (w : World) (hs : d0.size = d.size) (S : SW enc w0 blk off d w) (ham : a < m) (hmb : m < b) (hb : b ≤ d.size) (hM : MergeIn lt cf d a m b) (hm1 : ¬ m = a + 1) (hb1 : b = m + 1) :
  Calls Try.prog 90 #[.slice (some ⟨blk, off, none⟩) d.size cap, .int .i64 a, .int .i64 m, .int .i64 b, .func (.func g) #[] cb] w fun e w' => e = .returned (.tuple #[]) ∧ ∃ d', SW enc w0 blk off d' w' ∧ Merged lt d d' a b := by
 have mixed : Try.prog.follows .mixedOrders = true := by kernel_rfl
 have eS : ∀ args w, (callFunc 90 args).run Try.prog w = .ok (.enter 90 args) w := enters_of Try.func90 (by kernel_rfl) rfl
 have eR : ∀ args w, (callFunc 97 args).run Try.prog w = .ok (.enter 97 args) w := enters_of Try.func97 (by kernel_rfl) rfl
 have hcl0 := R.hO.cells
 simp only [Value.cells] at hcl0
 have hst := R.hO.store Try.prog
 have hsz : d.size < 4611686018427387904 := by omega
 have HC : Aside _ := hcmp
 have HM : Hid (MergeIn lt cf d a m b) := hM
 have TR : Hid (∀ x y z, lt x y → lt y z → lt x z) := tr
 have S0 : Aside (SW enc w0 blk off d w) := S
 clear S hM hcmp tr
 have hb2 : b ≤ m + 1 := by omega
 have zb1 : (b : Int) - (m : Int) = 1 := by omega
 have HB1 : Aside (b = m + 1) := hb1
 clear hb1
 have hna : ¬ (m : Int) - (a : Int) = 1 := by omega
 have zna : ((m : Int) - (a : Int) == 1) = false := beq_eq_false_iff_ne.2 hna
 go_enter Try.func90, Try.ntmps90
 go_wp2
 go_loopg [14, 15] (m - a) (fun kx s10 s11 wr => ∃ (i j : Nat), s10 = .int .i64 i ∧ s11 = .int .i64 j ∧ a ≤ i ∧ i ≤ j ∧ j ≤ m ∧ j - i ≤ kx ∧ Aside (SW enc w0 blk off d wr) ∧ BsB cf d a m i j)
 case atStart => exact ⟨a, m, rfl, rfl, Nat.le_refl _, by omega, Nat.le_refl _, Nat.le_refl _, S0, ⟨.inl rfl, .inl rfl⟩⟩
 case round =>
  clear S0
  obtain ⟨i, j, rfl, rfl, hai, hij, hjb, hkx, S1, HB⟩ := hrel
  by_cases hlt : i < j
  ·have hltz : (i : Int) < (j : Int) := by omega
   by_cases hlv0 : cf d[m]! d[(i + j) / 2]! < 0
   ·have HLV : Hid _ := hlv0
    clear hlv0
    go_wp2_with fail
    obtain ⟨iN21, hiN21⟩ : ∃ q, q = m := ⟨_, rfl⟩
    obtain ⟨jN21, hjN21⟩ : ∃ q, q = (i + j) / 2 := ⟨_, rfl⟩
    have ea21 : ((m : Int)).toNat = iN21 := by omega
    have pa21 : (0 : Int) ≤ (m : Int) := by omega
    have ba21 : (m : Int) < (d.size : Int) := by omega
    have ra21 : IntKind.i64.wrap ((m : Int)) = (m : Int) := by rw [IntKind.wrap_i64]; omega
    have ec21 : (((i : Int) + (j : Int)) / 2).toNat = jN21 := by omega
    have pc21 : (0 : Int) ≤ ((i : Int) + (j : Int)) / 2 := by omega
    have bc21 : ((i : Int) + (j : Int)) / 2 < (d.size : Int) := by omega
    have rc21 : IntKind.i64.wrap (((i : Int) + (j : Int)) / 2) = ((i : Int) + (j : Int)) / 2 := by rw [IntKind.wrap_i64]; omega
    obtain ⟨x21, hx21⟩ : ∃ x, x = d[m]! := ⟨_, rfl⟩
    obtain ⟨y21, hy21⟩ : ∃ x, x = d[(i + j) / 2]! := ⟨_, rfl⟩
    have l21a := S1.out.cl R (by omega) (m) (by omega)
    have l21b := S1.out.cl R (by omega) ((i + j) / 2) (by omega)
    rw [← hx21, ← hiN21] at l21a
    rw [← hy21, ← hjN21] at l21b
    have hc21 := S1.out.cmp HC.out (by omega) x21 y21
    have hv21 : cf x21 y21 < 0 := by rw [hx21, hy21]; exact HLV.out
    have hd21 : decide (cf x21 y21 < 0) = true := decide_eq_true hv21
    clear hx21 hy21 hiN21 hjN21
    go_wp2_with fail
    go_quiet_grown (first | (go_at_fn g; refine Calls.grown_of (hc21 _ _)))
    have S2 : Aside (SW enc w0 blk off d (grow (wr.drewN nq) osq)) := S1.out.grown nq osq
    clear l21a l21b hc21 S1
    generalize grow (wr.drewN nq) osq = w2 at S2 ⊢
    clear nq osq
    clear ea21 ec21
    go_wp2
    go_roundg ((i + j) / 2 - i)
    case measure => omega
    case rel => exact ⟨i, (i + j) / 2, rfl, (by rw [show ((i : Int) + (j : Int)) / 2 = (((i + j) / 2 : Nat) : Int) by omega]), hai, by omega, by omega, Nat.le_refl _, S2, ⟨HB.l, .inr HLV.out⟩⟩
   ·have HLV : Hid _ := hlv0
    clear hlv0
    go_wp2_with fail
    obtain ⟨iN22, hiN22⟩ : ∃ q, q = m := ⟨_, rfl⟩
    obtain ⟨jN22, hjN22⟩ : ∃ q, q = (i + j) / 2 := ⟨_, rfl⟩
    have ea22 : ((m : Int)).toNat = iN22 := by omega
    have pa22 : (0 : Int) ≤ (m : Int) := by omega
    have ba22 : (m : Int) < (d.size : Int) := by omega
    have ra22 : IntKind.i64.wrap ((m : Int)) = (m : Int) := by rw [IntKind.wrap_i64]; omega
    have ec22 : (((i : Int) + (j : Int)) / 2).toNat = jN22 := by omega
    have pc22 : (0 : Int) ≤ ((i : Int) + (j : Int)) / 2 := by omega
    have bc22 : ((i : Int) + (j : Int)) / 2 < (d.size : Int) := by omega
    have rc22 : IntKind.i64.wrap (((i : Int) + (j : Int)) / 2) = ((i : Int) + (j : Int)) / 2 := by rw [IntKind.wrap_i64]; omega
    obtain ⟨x22, hx22⟩ : ∃ x, x = d[m]! := ⟨_, rfl⟩
    obtain ⟨y22, hy22⟩ : ∃ x, x = d[(i + j) / 2]! := ⟨_, rfl⟩
    have l22a := S1.out.cl R (by omega) (m) (by omega)
    have l22b := S1.out.cl R (by omega) ((i + j) / 2) (by omega)
    rw [← hx22, ← hiN22] at l22a
    rw [← hy22, ← hjN22] at l22b
    have hc22 := S1.out.cmp HC.out (by omega) x22 y22
    have hv22 : ¬ cf x22 y22 < 0 := by rw [hx22, hy22]; exact HLV.out
    have hd22 : decide (cf x22 y22 < 0) = false := decide_eq_false hv22
    clear hx22 hy22 hiN22 hjN22
    go_wp2_with fail
    go_quiet_grown (first | (go_at_fn g; refine Calls.grown_of (hc22 _ _)))
    have S2 : Aside (SW enc w0 blk off d (grow (wr.drewN nq) osq)) := S1.out.grown nq osq
    clear l22a l22b hc22 S1
    generalize grow (wr.drewN nq) osq = w2 at S2 ⊢
    clear nq osq
    clear ea22 ec22
    go_wp2
    go_roundg (j - ((i + j) / 2 + 1))
    case measure => omega
    case rel => exact ⟨(i + j) / 2 + 1, j, (by rw [show ((i : Int) + (j : Int)) / 2 + 1 = (((i + j) / 2 + 1 : Nat) : Int) by omega]), rfl, by omega, by omega, hjb, Nat.le_refl _, S2, ⟨.inr (by simpa using HLV.out), HB.h⟩⟩
  ·have hltz : ¬ (i : Int) < (j : Int) := by omega
   obtain rfl : j = i := by omega
   have FIN : Hid (Merged lt d (shiftL j m d) a b) := Merged.last TR.out HM.out HB1.out (by omega) hb hai hjb HB.l HB.h
   clear HB
   go_wp2
   go_loopg [17] m (fun kx s13 wr => ∃ (k : Nat) (dk : Array α), s13 = .int .i64 k ∧ j ≤ k ∧ k ≤ m ∧ k ≤ kx ∧ dk.size = d.size ∧ Aside (SW enc w0 blk off dk wr) ∧ Hid (shiftL j k dk = shiftL j m d))
   case atStart => exact ⟨m, d, rfl, by omega, Nat.le_refl _, Nat.le_refl _, rfl, S1, rfl⟩
   case round =>
    clear S1
    obtain ⟨k, dk, rfl, hak, hke, hkx2, hds, S1, HE⟩ := hrel
    by_cases hlt2 : j < k
    ·obtain ⟨kp, hkp⟩ : ∃ q, q + 1 = k := ⟨k - 1, by omega⟩
     have zkp : (k : Int) = (kp : Int) + 1 := by omega
     have hltz2 : (j : Int) < (kp : Int) + 1 := by omega
     obtain ⟨iN23, hiN23⟩ : ∃ q, q = k := ⟨_, rfl⟩
     obtain ⟨jN23, hjN23⟩ : ∃ q, q = k - 1 := ⟨_, rfl⟩
     have ea23 : ((kp : Int) + 1).toNat = iN23 := by omega
     have pa23 : (0 : Int) ≤ (kp : Int) + 1 := by omega
     have ba23 : (kp : Int) + 1 < (d.size : Int) := by omega
     have ra23 : IntKind.i64.wrap ((kp : Int) + 1) = (kp : Int) + 1 := by rw [IntKind.wrap_i64]; omega
     have ec23 : ((kp : Int)).toNat = jN23 := by omega
     have pc23 : (0 : Int) ≤ (kp : Int) := by omega
     have bc23 : (kp : Int) < (d.size : Int) := by omega
     have rc23 : IntKind.i64.wrap ((kp : Int)) = (kp : Int) := by rw [IntKind.wrap_i64]; omega
     obtain ⟨x23, hx23⟩ : ∃ x, x = dk[k]! := ⟨_, rfl⟩
     obtain ⟨y23, hy23⟩ : ∃ x, x = dk[k - 1]! := ⟨_, rfl⟩
     have S2 : Aside (SW enc w0 blk off (swp dk (k) (k - 1)) ((wr.setCell ⟨blk, off + iN23, none⟩ (enc y23)).setCell ⟨blk, off + jN23, none⟩ (enc x23)).drew) := by rw [hiN23, hjN23, hx23, hy23]; exact S1.out.swapped R (k) (k - 1) (by omega) (by omega)
     have c23a := S1.out.c1 R (by omega) (k) (by omega)
     have c23b := S1.out.c1 R (by omega) (k - 1) (by omega)
     have f23a := S1.out.f1 R (by omega) (k) (by omega)
     have f23b := S1.out.f1 R (by omega) (k - 1) (by omega)
     obtain ⟨u23, c23c⟩ := S1.out.c2 R (by omega) (k) (k - 1) (by omega) (by omega) (enc y23)
     rw [← hjN23, ← hiN23] at c23c
     rw [← hx23, ← hiN23] at c23a
     rw [← hy23, ← hjN23] at c23b
     rw [← hiN23] at f23a
     rw [← hjN23] at f23b
     clear S1 hx23 hy23 hiN23 hjN23
     go_wp2_with fail
     go_big_region_o
     clear c23a c23b c23c f23a f23b
     generalize ((wr.setCell ⟨blk, off + iN23, none⟩ (enc y23)).setCell ⟨blk, off + jN23, none⟩ (enc x23)).drew = w2 at S2 ⊢
     clear ea23 ec23
     go_wp2
     go_roundg (k - 1)
     case measure => omega
     case rel => exact ⟨k - 1, swp dk k (k - 1), by first | rfl | go_num | (congr 1; omega), by omega, by omega, Nat.le_refl _, by rw [size_swp]; exact hds, S2, (show Hid _ from by rw [← HE.out, shiftL_go hlt2]; exact rfl)⟩
    ·have hltz2 : ¬ (j : Int) < (k : Int) := by omega
     go_wp2
     (try simp only [Exit.inBlock, Exit.then]); refine bodyPost_ret (results_none rfl _ _ _) rfl ?_
     exact ⟨rfl, dk, S1.out, by rw [show dk = shiftL j m d from by rw [← HE.out, shiftL_stop hlt2]]; exact FIN.out⟩
end Go.Proofs.C10
end
section
namespace Go.Proofs.C10
open Go Go.Proofs.R
open Go.Shelf Go.RowKit Go.Lib Go.Sort
set_option linter.unusedVariables false
set_option linter.unusedSectionVars false
set_option linter.unusedSimpArgs false
variable {α : Type} [Inhabited α]
set_option maxHeartbeats 64000000 in
set_option maxRecDepth 1000000 in
theorem sym_A (enc : α → Value) (cf : α → α → Int) (lt : α → α → Prop) (tr : ∀ x y z, lt x y → lt y z → lt x z) (g : Nat) (cb : Array Value) (blk off cap : Nat) (d0 : Array α) (w0 : World)
  (eg : ∀ args w, (callFunc g args).run Try.prog w = .ok (.enter g args) w) (hcmp : CmpLays1 Try.prog g cb enc cf blk off d0.size w0) (R : Row1 enc w0 blk off d0) (hsz0 : d0.size < 4611686018427387904) (N : Nat) (ih : SymSpec enc cf lt g cb blk off cap d0 w0 N)
  (a m b : Nat) (d : Array α) (w : World) (hs : d0.size = d.size) (S : SW enc w0 blk off d w) (ham : a < m) (hmb : m < b) (hb : b ≤ d.size) (hM : MergeIn lt cf d a m b) (hN : b - a ≤ N + 1) (hm1 : ¬ m = a + 1) (hb1 : ¬ b = m + 1) (mid : Nat) (hmid : mid = (a + b) / 2) (hmm : mid < m) :
  Calls Try.prog 90 #[.slice (some ⟨blk, off, none⟩) d.size cap, .int .i64 a, .int .i64 m, .int .i64 b, .func (.func g) #[] cb] w fun e w' => e = .returned (.tuple #[]) ∧ ∃ d', SW enc w0 blk off d' w' ∧ Merged lt d d' a b := by
 have mixed : Try.prog.follows .mixedOrders = true := by kernel_rfl
 have eS : ∀ args w, (callFunc 90 args).run Try.prog w = .ok (.enter 90 args) w := enters_of Try.func90 (by kernel_rfl) rfl
 have eR : ∀ args w, (callFunc 97 args).run Try.prog w = .ok (.enter 97 args) w := enters_of Try.func97 (by kernel_rfl) rfl
 have hcl0 := R.hO.cells
 simp only [Value.cells] at hcl0
 have hst := R.hO.store Try.prog
 have hsz : d.size < 4611686018427387904 := by omega
 have HC : Aside _ := hcmp
 have HM : Hid (MergeIn lt cf d a m b) := hM
 have TR : Hid (∀ x y z, lt x y → lt y z → lt x z) := tr
 have S0 : Aside (SW enc w0 blk off d w) := S
 clear S hM hcmp tr
 have IH : Aside _ := ih
 clear ih
 have hna : ¬ (m : Int) - (a : Int) = 1 := by omega
 have hnb : ¬ (b : Int) - (m : Int) = 1 := by omega
 have zna : ((m : Int) - (a : Int) == 1) = false := beq_eq_false_iff_ne.2 hna
 have znb : ((b : Int) - (m : Int) == 1) = false := beq_eq_false_iff_ne.2 hnb
 have emid : (mid : Int) = ((a : Int) + (b : Int)) / 2 := by omega
 obtain ⟨lo, hlo0⟩ : ∃ q, q = mid + m - b := ⟨_, rfl⟩
 have zlo : ((a : Int) + (b : Int)) / 2 + (m : Int) - (b : Int) = (lo : Int) := by omega
 have hgt : ((a : Int) + (b : Int)) / 2 < (m : Int) := by omega
 have hlo : lo = if mid < m then mid + m - b else a := by rw [if_pos hmm]; exact hlo0
 have hlo1 : lo + b ≤ mid + m := by omega
 have hlo2 : mid + m ≤ lo + b := by omega
 clear hlo0
 have hhi : mid = if mid < m then mid else m := by rw [if_pos hmm]
 have HLO : Hid (lo = if mid < m then mid + m - b else a) := hlo
 have HHI : Hid (mid = if mid < m then mid else m) := hhi
 clear hlo hhi
 have F1 : lo ≤ mid := by omega
 have F3 : mid + m ≤ b + lo := by omega
 have F4 : a ≤ lo := by omega
 have F6 : mid < b := by omega
 have F7 : 2 * mid ≤ a + b := by omega
 have F8 : a + b ≤ 2 * mid + 1 := by omega
 have HMID : Hid (mid = (a + b) / 2) := hmid
 clear hmid
 go_enter Try.func90, Try.ntmps90
 go_wp2
 go_loopg [20, 21] (mid - lo) (fun kx s10 s11 wr => ∃ (i j : Nat), s10 = .int .i64 i ∧ s11 = .int .i64 j ∧ lo ≤ i ∧ i ≤ j ∧ j ≤ mid ∧ j - i ≤ kx ∧ Aside (SW enc w0 blk off d wr) ∧ BsC cf d (mid + m) lo mid i j)
 case atStart => exact ⟨lo, mid, (by first | rfl | rw [emid]), (by first | rfl | rw [emid]), Nat.le_refl _, F1, Nat.le_refl _, Nat.le_refl _, S0, ⟨.inl rfl, .inl rfl⟩⟩
 case round =>
  clear S0
  obtain ⟨i, j, rfl, rfl, hai, hij, hjb, hkx, S1, HB⟩ := hrel
  by_cases hlt : i < j
  ·have hltz : (i : Int) < (j : Int) := by omega
   obtain ⟨pc, hpc⟩ : ∃ q, q = mid + m - 1 - (i + j) / 2 := ⟨_, rfl⟩
   have zpc : ((a : Int) + (b : Int)) / 2 + (m : Int) - 1 - ((i : Int) + (j : Int)) / 2 = (pc : Int) := by omega
   have hpcb : pc < d.size := by omega
   have HPC : Hid (pc = mid + m - 1 - (i + j) / 2) := hpc
   clear hpc
   by_cases hlv0 : cf d[pc]! d[(i + j) / 2]! < 0
   ·have HLV : Hid _ := hlv0
    clear hlv0
    go_wp2_with fail
    obtain ⟨iN31, hiN31⟩ : ∃ q, q = pc := ⟨_, rfl⟩
    obtain ⟨jN31, hjN31⟩ : ∃ q, q = (i + j) / 2 := ⟨_, rfl⟩
    have ea31 : ((pc : Int)).toNat = iN31 := by omega
    have pa31 : (0 : Int) ≤ (pc : Int) := by omega
    have ba31 : (pc : Int) < (d.size : Int) := by omega
    have ra31 : IntKind.i64.wrap ((pc : Int)) = (pc : Int) := by rw [IntKind.wrap_i64]; omega
    have ec31 : (((i : Int) + (j : Int)) / 2).toNat = jN31 := by omega
    have pc31 : (0 : Int) ≤ ((i : Int) + (j : Int)) / 2 := by omega
    have bc31 : ((i : Int) + (j : Int)) / 2 < (d.size : Int) := by omega
    have rc31 : IntKind.i64.wrap (((i : Int) + (j : Int)) / 2) = ((i : Int) + (j : Int)) / 2 := by rw [IntKind.wrap_i64]; omega
    obtain ⟨x31, hx31⟩ : ∃ x, x = d[pc]! := ⟨_, rfl⟩
    obtain ⟨y31, hy31⟩ : ∃ x, x = d[(i + j) / 2]! := ⟨_, rfl⟩
    have l31a := S1.out.cl R (by omega) (pc) (by omega)
    have l31b := S1.out.cl R (by omega) ((i + j) / 2) (by omega)
    rw [← hx31, ← hiN31] at l31a
    rw [← hy31, ← hjN31] at l31b
    have hc31 := S1.out.cmp HC.out (by omega) x31 y31
    have hv31 : cf x31 y31 < 0 := by rw [hx31, hy31]; exact HLV.out
    have hd31 : decide (cf x31 y31 < 0) = true := decide_eq_true hv31
    clear hx31 hy31 hiN31 hjN31
    go_wp2_with fail
    go_quiet_grown (first | (go_at_fn g; refine Calls.grown_of (hc31 _ _)))
    have S2 : Aside (SW enc w0 blk off d (grow (wr.drewN nq) osq)) := S1.out.grown nq osq
    clear l31a l31b hc31 S1
    generalize grow (wr.drewN nq) osq = w2 at S2 ⊢
    clear nq osq
    clear ea31 ec31
    go_wp2
    go_roundg ((i + j) / 2 - i)
    case measure => omega
    case rel => exact ⟨i, (i + j) / 2, rfl, (by rw [show ((i : Int) + (j : Int)) / 2 = (((i + j) / 2 : Nat) : Int) by omega]), hai, by omega, by omega, Nat.le_refl _, S2, ⟨HB.l, .inr (by rw [← HPC.out]; exact HLV.out)⟩⟩
   ·have HLV : Hid _ := hlv0
    clear hlv0
    go_wp2_with fail
    obtain ⟨iN32, hiN32⟩ : ∃ q, q = pc := ⟨_, rfl⟩
    obtain ⟨jN32, hjN32⟩ : ∃ q, q = (i + j) / 2 := ⟨_, rfl⟩
    have ea32 : ((pc : Int)).toNat = iN32 := by omega
    have pa32 : (0 : Int) ≤ (pc : Int) := by omega
    have ba32 : (pc : Int) < (d.size : Int) := by omega
    have ra32 : IntKind.i64.wrap ((pc : Int)) = (pc : Int) := by rw [IntKind.wrap_i64]; omega
    have ec32 : (((i : Int) + (j : Int)) / 2).toNat = jN32 := by omega
    have pc32 : (0 : Int) ≤ ((i : Int) + (j : Int)) / 2 := by omega
    have bc32 : ((i : Int) + (j : Int)) / 2 < (d.size : Int) := by omega
    have rc32 : IntKind.i64.wrap (((i : Int) + (j : Int)) / 2) = ((i : Int) + (j : Int)) / 2 := by rw [IntKind.wrap_i64]; omega
    obtain ⟨x32, hx32⟩ : ∃ x, x = d[pc]! := ⟨_, rfl⟩
    obtain ⟨y32, hy32⟩ : ∃ x, x = d[(i + j) / 2]! := ⟨_, rfl⟩
    have l32a := S1.out.cl R (by omega) (pc) (by omega)
    have l32b := S1.out.cl R (by omega) ((i + j) / 2) (by omega)
    rw [← hx32, ← hiN32] at l32a
    rw [← hy32, ← hjN32] at l32b
    have hc32 := S1.out.cmp HC.out (by omega) x32 y32
    have hv32 : ¬ cf x32 y32 < 0 := by rw [hx32, hy32]; exact HLV.out
    have hd32 : decide (cf x32 y32 < 0) = false := decide_eq_false hv32
    clear hx32 hy32 hiN32 hjN32
    go_wp2_with fail
    go_quiet_grown (first | (go_at_fn g; refine Calls.grown_of (hc32 _ _)))
    have S2 : Aside (SW enc w0 blk off d (grow (wr.drewN nq) osq)) := S1.out.grown nq osq
    clear l32a l32b hc32 S1
    generalize grow (wr.drewN nq) osq = w2 at S2 ⊢
    clear nq osq
    clear ea32 ec32
    go_wp2
    go_roundg (j - ((i + j) / 2 + 1))
    case measure => omega
    case rel => exact ⟨(i + j) / 2 + 1, j, (by rw [show ((i : Int) + (j : Int)) / 2 + 1 = (((i + j) / 2 + 1 : Nat) : Int) by omega]), rfl, by omega, by omega, hjb, Nat.le_refl _, S2, ⟨.inr (by rw [Nat.add_sub_cancel, ← HPC.out]; exact HLV.out), HB.h⟩⟩
  ·have hltz : ¬ (i : Int) < (j : Int) := by omega
   obtain rfl : j = i := by omega
   obtain ⟨en, hen⟩ : ∃ q, q = mid + m - j := ⟨_, rfl⟩
   have zen : ((a : Int) + (b : Int)) / 2 + (m : Int) - (j : Int) = (en : Int) := by omega
   have HP : Hid (∀ d1, RotD d d1 j m en → Parts lt cf d1 a j mid en b) := fun d1 hr => by
    rw [hen] at hr ⊢
    exact parts_of TR.out HM.out ham hmb HMID.out HLO.out HHI.out ⟨hai, hjb, HB.l, HB.h⟩ hr
   have hen1 : en + j ≤ mid + m := by omega
   have hen2 : mid + m ≤ en + j := by omega
   clear hen
   clear HB HLO HHI
   by_cases h2 : j < mid
   ·by_cases h3 : a < j
    ·by_cases h4 : en < b
     ·have f1 : (j : Int) < (m : Int) := by omega
      have f2 : (m : Int) < (en : Int) := by omega
      have f3 : (a : Int) < (j : Int) := by omega
      have f4 : (j : Int) < ((a : Int) + (b : Int)) / 2 := by omega
      have f5 : ((a : Int) + (b : Int)) / 2 < (en : Int) := by omega
      have f6 : (en : Int) < (b : Int) := by omega
      have hcall := rotate_ok enc g cb blk off cap j m en d0 d w0 wr R (by omega) S1.out (by omega) (by omega) (by omega) (by omega)
      clear S1
      go_wp2_with (go_at_fn 97; with_reducible refine hcall.mono ?_; rintro e w1 ⟨rfl, d1, S2, HR0⟩)
      clear hcall
      have HR : Hid (RotD d d1 j m en) := HR0
      have S3 : Aside (SW enc w0 blk off d1 w1) := S2
      clear HR0 S2
      have hd1 : d1.size = d.size := HR.out.perm.1
      have HPP : Hid (Parts lt cf d1 a j mid en b) := HP.out d1 HR.out
      clear HP
      have hcall := IH.out a j mid d1 w1 (by omega) (by omega) S3.out (by omega) (by omega) (by omega) HPP.out.left
      rw [emid, hd1] at hcall
      clear S3
      go_wp2_with (go_at_fn 90; with_reducible refine hcall.mono ?_; rintro e w2 ⟨rfl, d2, S4, HM0⟩)
      clear hcall
      have HM2 : Hid (Merged lt d1 d2 a mid) := HM0
      have S5 : Aside (SW enc w0 blk off d2 w2) := S4
      clear HM0 S4
      have hd2 : d2.size = d.size := HM2.out.perm.1.trans hd1
      have hcall := IH.out mid en b d2 w2 (by omega) (by omega) S5.out (by omega) (by omega) (by omega) (HPP.out.second HM2.out)
      rw [emid, hd2] at hcall
      clear S5
      go_wp2_with (go_at_fn 90; with_reducible refine hcall.mono ?_; rintro e w3 ⟨rfl, d3, S6, HM3⟩)
      go_end0
      exact ⟨rfl, d3, S6, HPP.out.join hb (permIn_mono _ _ j en a b (by omega) (by omega) hb HR.out.perm) HM2.out HM3⟩
     ·have f1 : (j : Int) < (m : Int) := by omega
      have f2 : (m : Int) < (en : Int) := by omega
      have f3 : (a : Int) < (j : Int) := by omega
      have f4 : (j : Int) < ((a : Int) + (b : Int)) / 2 := by omega
      have f5 : ((a : Int) + (b : Int)) / 2 < (en : Int) := by omega
      have f6 : ¬ (en : Int) < (b : Int) := by omega
      have hcall := rotate_ok enc g cb blk off cap j m en d0 d w0 wr R (by omega) S1.out (by omega) (by omega) (by omega) (by omega)
      clear S1
      go_wp2_with (go_at_fn 97; with_reducible refine hcall.mono ?_; rintro e w1 ⟨rfl, d1, S2, HR0⟩)
      clear hcall
      have HR : Hid (RotD d d1 j m en) := HR0
      have S3 : Aside (SW enc w0 blk off d1 w1) := S2
      clear HR0 S2
      have hd1 : d1.size = d.size := HR.out.perm.1
      have HPP : Hid (Parts lt cf d1 a j mid en b) := HP.out d1 HR.out
      clear HP
      have hcall := IH.out a j mid d1 w1 (by omega) (by omega) S3.out (by omega) (by omega) (by omega) HPP.out.left
      rw [emid, hd1] at hcall
      clear S3
      go_wp2_with (go_at_fn 90; with_reducible refine hcall.mono ?_; rintro e w2 ⟨rfl, d2, S4, HM0⟩)
      clear hcall
      have HM2 : Hid (Merged lt d1 d2 a mid) := HM0
      have S5 : Aside (SW enc w0 blk off d2 w2) := S4
      clear HM0 S4
      have hd2 : d2.size = d.size := HM2.out.perm.1.trans hd1
      have HM3 : Hid (Merged lt d2 d2 mid b) := Merged.none (HPP.out.second HM2.out) (by omega) (by omega) (by omega)
      go_wp2
      go_end0
      exact ⟨rfl, d2, S5.out, HPP.out.join hb (permIn_mono _ _ j en a b (by omega) (by omega) hb HR.out.perm) HM2.out HM3.out⟩
    ·by_cases h4 : en < b
     ·have f1 : (j : Int) < (m : Int) := by omega
      have f2 : (m : Int) < (en : Int) := by omega
      have f3 : ¬ (a : Int) < (j : Int) := by omega
      have f4 : (j : Int) < ((a : Int) + (b : Int)) / 2 := by omega
      have f5 : ((a : Int) + (b : Int)) / 2 < (en : Int) := by omega
      have f6 : (en : Int) < (b : Int) := by omega
      have hcall := rotate_ok enc g cb blk off cap j m en d0 d w0 wr R (by omega) S1.out (by omega) (by omega) (by omega) (by omega)
      clear S1
      go_wp2_with (go_at_fn 97; with_reducible refine hcall.mono ?_; rintro e w1 ⟨rfl, d1, S2, HR0⟩)
      clear hcall
      have HR : Hid (RotD d d1 j m en) := HR0
      have S3 : Aside (SW enc w0 blk off d1 w1) := S2
      clear HR0 S2
      have hd1 : d1.size = d.size := HR.out.perm.1
      have HPP : Hid (Parts lt cf d1 a j mid en b) := HP.out d1 HR.out
      clear HP
      obtain ⟨d2, hd2⟩ : ∃ q, q = d1 := ⟨_, rfl⟩
      have HM2 : Hid (Merged lt d1 d2 a mid) := by rw [hd2]; exact Merged.none HPP.out.left (by omega) (by omega) (by omega)
      have S5 : Aside (SW enc w0 blk off d2 w1) := by rw [hd2]; exact S3.out
      clear S3 hd2
      go_wp2_with fail
      have hd2 : d2.size = d.size := HM2.out.perm.1.trans hd1
      have hcall := IH.out mid en b d2 w1 (by omega) (by omega) S5.out (by omega) (by omega) (by omega) (HPP.out.second HM2.out)
      rw [emid, hd2] at hcall
      clear S5
      go_wp2_with (go_at_fn 90; with_reducible refine hcall.mono ?_; rintro e w3 ⟨rfl, d3, S6, HM3⟩)
      go_end0
      exact ⟨rfl, d3, S6, HPP.out.join hb (permIn_mono _ _ j en a b (by omega) (by omega) hb HR.out.perm) HM2.out HM3⟩
     ·have f1 : (j : Int) < (m : Int) := by omega
      have f2 : (m : Int) < (en : Int) := by omega
      have f3 : ¬ (a : Int) < (j : Int) := by omega
      have f4 : (j : Int) < ((a : Int) + (b : Int)) / 2 := by omega
      have f5 : ((a : Int) + (b : Int)) / 2 < (en : Int) := by omega
      have f6 : ¬ (en : Int) < (b : Int) := by omega
      have hcall := rotate_ok enc g cb blk off cap j m en d0 d w0 wr R (by omega) S1.out (by omega) (by omega) (by omega) (by omega)
      clear S1
      go_wp2_with (go_at_fn 97; with_reducible refine hcall.mono ?_; rintro e w1 ⟨rfl, d1, S2, HR0⟩)
      clear hcall
      have HR : Hid (RotD d d1 j m en) := HR0
      have S3 : Aside (SW enc w0 blk off d1 w1) := S2
      clear HR0 S2
      have hd1 : d1.size = d.size := HR.out.perm.1
      have HPP : Hid (Parts lt cf d1 a j mid en b) := HP.out d1 HR.out
      clear HP
      obtain ⟨d2, hd2⟩ : ∃ q, q = d1 := ⟨_, rfl⟩
      have HM2 : Hid (Merged lt d1 d2 a mid) := by rw [hd2]; exact Merged.none HPP.out.left (by omega) (by omega) (by omega)
      have S5 : Aside (SW enc w0 blk off d2 w1) := by rw [hd2]; exact S3.out
      clear S3 hd2
      go_wp2_with fail
      have hd2 : d2.size = d.size := HM2.out.perm.1.trans hd1
      have HM3 : Hid (Merged lt d2 d2 mid b) := Merged.none (HPP.out.second HM2.out) (by omega) (by omega) (by omega)
      go_wp2
      go_end0
      exact ⟨rfl, d2, S5.out, HPP.out.join hb (permIn_mono _ _ j en a b (by omega) (by omega) hb HR.out.perm) HM2.out HM3.out⟩
   ·by_cases h3 : a < j
    ·by_cases h4 : en < b
     ·have f1 : (j : Int) < (m : Int) := by omega
      have f2 : ¬ (m : Int) < (en : Int) := by omega
      have f3 : (a : Int) < (j : Int) := by omega
      have f4 : ¬ (j : Int) < ((a : Int) + (b : Int)) / 2 := by omega
      have f5 : ((a : Int) + (b : Int)) / 2 < (en : Int) := by omega
      have f6 : (en : Int) < (b : Int) := by omega
      obtain ⟨d1, hd1⟩ : ∃ q, q = d := ⟨_, rfl⟩
      have HR : Hid (RotD d d1 j m en) := by rw [hd1]; exact RotD.none (by omega) (by omega) (by omega)
      have S3 : Aside (SW enc w0 blk off d1 wr) := by rw [hd1]; exact S1.out
      clear S1 hd1
      go_wp2_with fail
      have hd1 : d1.size = d.size := HR.out.perm.1
      have HPP : Hid (Parts lt cf d1 a j mid en b) := HP.out d1 HR.out
      clear HP
      obtain ⟨d2, hd2⟩ : ∃ q, q = d1 := ⟨_, rfl⟩
      have HM2 : Hid (Merged lt d1 d2 a mid) := by rw [hd2]; exact Merged.none HPP.out.left (by omega) (by omega) (by omega)
      have S5 : Aside (SW enc w0 blk off d2 wr) := by rw [hd2]; exact S3.out
      clear S3 hd2
      go_wp2_with fail
      have hd2 : d2.size = d.size := HM2.out.perm.1.trans hd1
      have hcall := IH.out mid en b d2 wr (by omega) (by omega) S5.out (by omega) (by omega) (by omega) (HPP.out.second HM2.out)
      rw [emid, hd2] at hcall
      clear S5
      go_wp2_with (go_at_fn 90; with_reducible refine hcall.mono ?_; rintro e w3 ⟨rfl, d3, S6, HM3⟩)
      go_end0
      exact ⟨rfl, d3, S6, HPP.out.join hb (permIn_mono _ _ j en a b (by omega) (by omega) hb HR.out.perm) HM2.out HM3⟩
     ·have f1 : (j : Int) < (m : Int) := by omega
      have f2 : ¬ (m : Int) < (en : Int) := by omega
      have f3 : (a : Int) < (j : Int) := by omega
      have f4 : ¬ (j : Int) < ((a : Int) + (b : Int)) / 2 := by omega
      have f5 : ((a : Int) + (b : Int)) / 2 < (en : Int) := by omega
      have f6 : ¬ (en : Int) < (b : Int) := by omega
      obtain ⟨d1, hd1⟩ : ∃ q, q = d := ⟨_, rfl⟩
      have HR : Hid (RotD d d1 j m en) := by rw [hd1]; exact RotD.none (by omega) (by omega) (by omega)
      have S3 : Aside (SW enc w0 blk off d1 wr) := by rw [hd1]; exact S1.out
      clear S1 hd1
      go_wp2_with fail
      have hd1 : d1.size = d.size := HR.out.perm.1
      have HPP : Hid (Parts lt cf d1 a j mid en b) := HP.out d1 HR.out
      clear HP
      obtain ⟨d2, hd2⟩ : ∃ q, q = d1 := ⟨_, rfl⟩
      have HM2 : Hid (Merged lt d1 d2 a mid) := by rw [hd2]; exact Merged.none HPP.out.left (by omega) (by omega) (by omega)
      have S5 : Aside (SW enc w0 blk off d2 wr) := by rw [hd2]; exact S3.out
      clear S3 hd2
      go_wp2_with fail
      have hd2 : d2.size = d.size := HM2.out.perm.1.trans hd1
      have HM3 : Hid (Merged lt d2 d2 mid b) := Merged.none (HPP.out.second HM2.out) (by omega) (by omega) (by omega)
      go_wp2
      go_end0
      exact ⟨rfl, d2, S5.out, HPP.out.join hb (permIn_mono _ _ j en a b (by omega) (by omega) hb HR.out.perm) HM2.out HM3.out⟩
    ·by_cases h4 : en < b
     ·have f1 : (j : Int) < (m : Int) := by omega
      have f2 : ¬ (m : Int) < (en : Int) := by omega
      have f3 : ¬ (a : Int) < (j : Int) := by omega
      have f4 : ¬ (j : Int) < ((a : Int) + (b : Int)) / 2 := by omega
      have f5 : ((a : Int) + (b : Int)) / 2 < (en : Int) := by omega
      have f6 : (en : Int) < (b : Int) := by omega
      obtain ⟨d1, hd1⟩ : ∃ q, q = d := ⟨_, rfl⟩
      have HR : Hid (RotD d d1 j m en) := by rw [hd1]; exact RotD.none (by omega) (by omega) (by omega)
      have S3 : Aside (SW enc w0 blk off d1 wr) := by rw [hd1]; exact S1.out
      clear S1 hd1
      go_wp2_with fail
      have hd1 : d1.size = d.size := HR.out.perm.1
      have HPP : Hid (Parts lt cf d1 a j mid en b) := HP.out d1 HR.out
      clear HP
      obtain ⟨d2, hd2⟩ : ∃ q, q = d1 := ⟨_, rfl⟩
      have HM2 : Hid (Merged lt d1 d2 a mid) := by rw [hd2]; exact Merged.none HPP.out.left (by omega) (by omega) (by omega)
      have S5 : Aside (SW enc w0 blk off d2 wr) := by rw [hd2]; exact S3.out
      clear S3 hd2
      go_wp2_with fail
      have hd2 : d2.size = d.size := HM2.out.perm.1.trans hd1
      have hcall := IH.out mid en b d2 wr (by omega) (by omega) S5.out (by omega) (by omega) (by omega) (HPP.out.second HM2.out)
      rw [emid, hd2] at hcall
      clear S5
      go_wp2_with (go_at_fn 90; with_reducible refine hcall.mono ?_; rintro e w3 ⟨rfl, d3, S6, HM3⟩)
      go_end0
      exact ⟨rfl, d3, S6, HPP.out.join hb (permIn_mono _ _ j en a b (by omega) (by omega) hb HR.out.perm) HM2.out HM3⟩
     ·have f1 : (j : Int) < (m : Int) := by omega
      have f2 : ¬ (m : Int) < (en : Int) := by omega
      have f3 : ¬ (a : Int) < (j : Int) := by omega
      have f4 : ¬ (j : Int) < ((a : Int) + (b : Int)) / 2 := by omega
      have f5 : ((a : Int) + (b : Int)) / 2 < (en : Int) := by omega
      have f6 : ¬ (en : Int) < (b : Int) := by omega
      obtain ⟨d1, hd1⟩ : ∃ q, q = d := ⟨_, rfl⟩
      have HR : Hid (RotD d d1 j m en) := by rw [hd1]; exact RotD.none (by omega) (by omega) (by omega)
      have S3 : Aside (SW enc w0 blk off d1 wr) := by rw [hd1]; exact S1.out
      clear S1 hd1
      go_wp2_with fail
      have hd1 : d1.size = d.size := HR.out.perm.1
      have HPP : Hid (Parts lt cf d1 a j mid en b) := HP.out d1 HR.out
      clear HP
      obtain ⟨d2, hd2⟩ : ∃ q, q = d1 := ⟨_, rfl⟩
      have HM2 : Hid (Merged lt d1 d2 a mid) := by rw [hd2]; exact Merged.none HPP.out.left (by omega) (by omega) (by omega)
      have S5 : Aside (SW enc w0 blk off d2 wr) := by rw [hd2]; exact S3.out
      clear S3 hd2
      go_wp2_with fail
      have hd2 : d2.size = d.size := HM2.out.perm.1.trans hd1
      have HM3 : Hid (Merged lt d2 d2 mid b) := Merged.none (HPP.out.second HM2.out) (by omega) (by omega) (by omega)
      go_wp2
      go_end0
      exact ⟨rfl, d2, S5.out, HPP.out.join hb (permIn_mono _ _ j en a b (by omega) (by omega) hb HR.out.perm) HM2.out HM3.out⟩
end Go.Proofs.C10
end
section
namespace Go.Proofs.C10
open Go Go.Proofs.R
open Go.Shelf Go.RowKit Go.Lib Go.Sort
set_option linter.unusedVariables false
set_option linter.unusedSectionVars false
set_option linter.unusedSimpArgs false
variable {α : Type} [Inhabited α]
set_option maxHeartbeats 64000000 in
set_option maxRecDepth 1000000 in
theorem sym_B (enc : α → Value) (cf : α → α → Int) (lt : α → α → Prop) (tr : ∀ x y z, lt x y → lt y z → lt x z) (g : Nat) (cb : Array Value) (blk off cap : Nat) (d0 : Array α) (w0 : World)
  (eg : ∀ args w, (callFunc g args).run Try.prog w = .ok (.enter g args) w) (hcmp : CmpLays1 Try.prog g cb enc cf blk off d0.size w0) (R : Row1 enc w0 blk off d0) (hsz0 : d0.size < 4611686018427387904) (N : Nat) (ih : SymSpec enc cf lt g cb blk off cap d0 w0 N)
  (a m b : Nat) (d : Array α) (w : World) (hs : d0.size = d.size) (S : SW enc w0 blk off d w) (ham : a < m) (hmb : m < b) (hb : b ≤ d.size) (hM : MergeIn lt cf d a m b) (hN : b - a ≤ N + 1) (hm1 : ¬ m = a + 1) (hb1 : ¬ b = m + 1) (mid : Nat) (hmid : mid = (a + b) / 2) (hmm : ¬ mid < m) :
  Calls Try.prog 90 #[.slice (some ⟨blk, off, none⟩) d.size cap, .int .i64 a, .int .i64 m, .int .i64 b, .func (.func g) #[] cb] w fun e w' => e = .returned (.tuple #[]) ∧ ∃ d', SW enc w0 blk off d' w' ∧ Merged lt d d' a b := by
 have mixed : Try.prog.follows .mixedOrders = true := by kernel_rfl
 have eS : ∀ args w, (callFunc 90 args).run Try.prog w = .ok (.enter 90 args) w := enters_of Try.func90 (by kernel_rfl) rfl
 have eR : ∀ args w, (callFunc 97 args).run Try.prog w = .ok (.enter 97 args) w := enters_of Try.func97 (by kernel_rfl) rfl
 have hcl0 := R.hO.cells
 simp only [Value.cells] at hcl0
 have hst := R.hO.store Try.prog
 have hsz : d.size < 4611686018427387904 := by omega
 have HC : Aside _ := hcmp
 have HM : Hid (MergeIn lt cf d a m b) := hM
 have TR : Hid (∀ x y z, lt x y → lt y z → lt x z) := tr
 have S0 : Aside (SW enc w0 blk off d w) := S
 clear S hM hcmp tr
 have IH : Aside _ := ih
 clear ih
 have hna : ¬ (m : Int) - (a : Int) = 1 := by omega
 have hnb : ¬ (b : Int) - (m : Int) = 1 := by omega
 have zna : ((m : Int) - (a : Int) == 1) = false := beq_eq_false_iff_ne.2 hna
 have znb : ((b : Int) - (m : Int) == 1) = false := beq_eq_false_iff_ne.2 hnb
 have emid : (mid : Int) = ((a : Int) + (b : Int)) / 2 := by omega
 have hgt : ¬ ((a : Int) + (b : Int)) / 2 < (m : Int) := by omega
 have hlo : a = if mid < m then mid + m - b else a := by rw [if_neg hmm]
 have hhi : m = if mid < m then mid else m := by rw [if_neg hmm]
 have HLO : Hid (a = if mid < m then mid + m - b else a) := hlo
 have HHI : Hid (m = if mid < m then mid else m) := hhi
 clear hlo hhi
 have F1 : a ≤ m := by omega
 have F3 : mid + m ≤ b + a := by omega
 have F4 : a ≤ a := by omega
 have F6 : mid < b := by omega
 have F7 : 2 * mid ≤ a + b := by omega
 have F8 : a + b ≤ 2 * mid + 1 := by omega
 have HMID : Hid (mid = (a + b) / 2) := hmid
 clear hmid
 go_enter Try.func90, Try.ntmps90
 go_wp2
 go_loopg [20, 21] (m - a) (fun kx s10 s11 wr => ∃ (i j : Nat), s10 = .int .i64 i ∧ s11 = .int .i64 j ∧ a ≤ i ∧ i ≤ j ∧ j ≤ m ∧ j - i ≤ kx ∧ Aside (SW enc w0 blk off d wr) ∧ BsC cf d (mid + m) a m i j)
 case atStart => exact ⟨a, m, (by first | rfl | rw [emid]), (by first | rfl | rw [emid]), Nat.le_refl _, F1, Nat.le_refl _, Nat.le_refl _, S0, ⟨.inl rfl, .inl rfl⟩⟩
 case round =>
  clear S0
  obtain ⟨i, j, rfl, rfl, hai, hij, hjb, hkx, S1, HB⟩ := hrel
  by_cases hlt : i < j
  ·have hltz : (i : Int) < (j : Int) := by omega
   obtain ⟨pc, hpc⟩ : ∃ q, q = mid + m - 1 - (i + j) / 2 := ⟨_, rfl⟩
   have zpc : ((a : Int) + (b : Int)) / 2 + (m : Int) - 1 - ((i : Int) + (j : Int)) / 2 = (pc : Int) := by omega
   have hpcb : pc < d.size := by omega
   have HPC : Hid (pc = mid + m - 1 - (i + j) / 2) := hpc
   clear hpc
   by_cases hlv0 : cf d[pc]! d[(i + j) / 2]! < 0
   ·have HLV : Hid _ := hlv0
    clear hlv0
    go_wp2_with fail
    obtain ⟨iN31, hiN31⟩ : ∃ q, q = pc := ⟨_, rfl⟩
    obtain ⟨jN31, hjN31⟩ : ∃ q, q = (i + j) / 2 := ⟨_, rfl⟩
    have ea31 : ((pc : Int)).toNat = iN31 := by omega
    have pa31 : (0 : Int) ≤ (pc : Int) := by omega
    have ba31 : (pc : Int) < (d.size : Int) := by omega
    have ra31 : IntKind.i64.wrap ((pc : Int)) = (pc : Int) := by rw [IntKind.wrap_i64]; omega
    have ec31 : (((i : Int) + (j : Int)) / 2).toNat = jN31 := by omega
    have pc31 : (0 : Int) ≤ ((i : Int) + (j : Int)) / 2 := by omega
    have bc31 : ((i : Int) + (j : Int)) / 2 < (d.size : Int) := by omega
    have rc31 : IntKind.i64.wrap (((i : Int) + (j : Int)) / 2) = ((i : Int) + (j : Int)) / 2 := by rw [IntKind.wrap_i64]; omega
    obtain ⟨x31, hx31⟩ : ∃ x, x = d[pc]! := ⟨_, rfl⟩
    obtain ⟨y31, hy31⟩ : ∃ x, x = d[(i + j) / 2]! := ⟨_, rfl⟩
    have l31a := S1.out.cl R (by omega) (pc) (by omega)
    have l31b := S1.out.cl R (by omega) ((i + j) / 2) (by omega)
    rw [← hx31, ← hiN31] at l31a
    rw [← hy31, ← hjN31] at l31b
    have hc31 := S1.out.cmp HC.out (by omega) x31 y31
    have hv31 : cf x31 y31 < 0 := by rw [hx31, hy31]; exact HLV.out
    have hd31 : decide (cf x31 y31 < 0) = true := decide_eq_true hv31
    clear hx31 hy31 hiN31 hjN31
    go_wp2_with fail
    go_quiet_grown (first | (go_at_fn g; refine Calls.grown_of (hc31 _ _)))
    have S2 : Aside (SW enc w0 blk off d (grow (wr.drewN nq) osq)) := S1.out.grown nq osq
    clear l31a l31b hc31 S1
    generalize grow (wr.drewN nq) osq = w2 at S2 ⊢
    clear nq osq
    clear ea31 ec31
    go_wp2
    go_roundg ((i + j) / 2 - i)
    case measure => omega
    case rel => exact ⟨i, (i + j) / 2, rfl, (by rw [show ((i : Int) + (j : Int)) / 2 = (((i + j) / 2 : Nat) : Int) by omega]), hai, by omega, by omega, Nat.le_refl _, S2, ⟨HB.l, .inr (by rw [← HPC.out]; exact HLV.out)⟩⟩
   ·have HLV : Hid _ := hlv0
    clear hlv0
    go_wp2_with fail
    obtain ⟨iN32, hiN32⟩ : ∃ q, q = pc := ⟨_, rfl⟩
    obtain ⟨jN32, hjN32⟩ : ∃ q, q = (i + j) / 2 := ⟨_, rfl⟩
    have ea32 : ((pc : Int)).toNat = iN32 := by omega
    have pa32 : (0 : Int) ≤ (pc : Int) := by omega
    have ba32 : (pc : Int) < (d.size : Int) := by omega
    have ra32 : IntKind.i64.wrap ((pc : Int)) = (pc : Int) := by rw [IntKind.wrap_i64]; omega
    have ec32 : (((i : Int) + (j : Int)) / 2).toNat = jN32 := by omega
    have pc32 : (0 : Int) ≤ ((i : Int) + (j : Int)) / 2 := by omega
    have bc32 : ((i : Int) + (j : Int)) / 2 < (d.size : Int) := by omega
    have rc32 : IntKind.i64.wrap (((i : Int) + (j : Int)) / 2) = ((i : Int) + (j : Int)) / 2 := by rw [IntKind.wrap_i64]; omega
    obtain ⟨x32, hx32⟩ : ∃ x, x = d[pc]! := ⟨_, rfl⟩
    obtain ⟨y32, hy32⟩ : ∃ x, x = d[(i + j) / 2]! := ⟨_, rfl⟩
    have l32a := S1.out.cl R (by omega) (pc) (by omega)
    have l32b := S1.out.cl R (by omega) ((i + j) / 2) (by omega)
    rw [← hx32, ← hiN32] at l32a
    rw [← hy32, ← hjN32] at l32b
    have hc32 := S1.out.cmp HC.out (by omega) x32 y32
    have hv32 : ¬ cf x32 y32 < 0 := by rw [hx32, hy32]; exact HLV.out
    have hd32 : decide (cf x32 y32 < 0) = false := decide_eq_false hv32
    clear hx32 hy32 hiN32 hjN32
    go_wp2_with fail
    go_quiet_grown (first | (go_at_fn g; refine Calls.grown_of (hc32 _ _)))
    have S2 : Aside (SW enc w0 blk off d (grow (wr.drewN nq) osq)) := S1.out.grown nq osq
    clear l32a l32b hc32 S1
    generalize grow (wr.drewN nq) osq = w2 at S2 ⊢
    clear nq osq
    clear ea32 ec32
    go_wp2
    go_roundg (j - ((i + j) / 2 + 1))
    case measure => omega
    case rel => exact ⟨(i + j) / 2 + 1, j, (by rw [show ((i : Int) + (j : Int)) / 2 + 1 = (((i + j) / 2 + 1 : Nat) : Int) by omega]), rfl, by omega, by omega, hjb, Nat.le_refl _, S2, ⟨.inr (by rw [Nat.add_sub_cancel, ← HPC.out]; exact HLV.out), HB.h⟩⟩
  ·have hltz : ¬ (i : Int) < (j : Int) := by omega
   obtain rfl : j = i := by omega
   obtain ⟨en, hen⟩ : ∃ q, q = mid + m - j := ⟨_, rfl⟩
   have zen : ((a : Int) + (b : Int)) / 2 + (m : Int) - (j : Int) = (en : Int) := by omega
   have HP : Hid (∀ d1, RotD d d1 j m en → Parts lt cf d1 a j mid en b) := fun d1 hr => by
    rw [hen] at hr ⊢
    exact parts_of TR.out HM.out ham hmb HMID.out HLO.out HHI.out ⟨hai, hjb, HB.l, HB.h⟩ hr
   have hen1 : en + j ≤ mid + m := by omega
   have hen2 : mid + m ≤ en + j := by omega
   clear hen
   clear HB HLO HHI
   by_cases h1 : j < m
   ·by_cases h3 : a < j
    ·by_cases h4 : en < b
     ·have f1 : (j : Int) < (m : Int) := by omega
      have f2 : (m : Int) < (en : Int) := by omega
      have f3 : (a : Int) < (j : Int) := by omega
      have f4 : (j : Int) < ((a : Int) + (b : Int)) / 2 := by omega
      have f5 : ((a : Int) + (b : Int)) / 2 < (en : Int) := by omega
      have f6 : (en : Int) < (b : Int) := by omega
      have hcall := rotate_ok enc g cb blk off cap j m en d0 d w0 wr R (by omega) S1.out (by omega) (by omega) (by omega) (by omega)
      clear S1
      go_wp2_with (go_at_fn 97; with_reducible refine hcall.mono ?_; rintro e w1 ⟨rfl, d1, S2, HR0⟩)
      clear hcall
      have HR : Hid (RotD d d1 j m en) := HR0
      have S3 : Aside (SW enc w0 blk off d1 w1) := S2
      clear HR0 S2
      have hd1 : d1.size = d.size := HR.out.perm.1
      have HPP : Hid (Parts lt cf d1 a j mid en b) := HP.out d1 HR.out
      clear HP
      have hcall := IH.out a j mid d1 w1 (by omega) (by omega) S3.out (by omega) (by omega) (by omega) HPP.out.left
      rw [emid, hd1] at hcall
      clear S3
      go_wp2_with (go_at_fn 90; with_reducible refine hcall.mono ?_; rintro e w2 ⟨rfl, d2, S4, HM0⟩)
      clear hcall
      have HM2 : Hid (Merged lt d1 d2 a mid) := HM0
      have S5 : Aside (SW enc w0 blk off d2 w2) := S4
      clear HM0 S4
      have hd2 : d2.size = d.size := HM2.out.perm.1.trans hd1
      have hcall := IH.out mid en b d2 w2 (by omega) (by omega) S5.out (by omega) (by omega) (by omega) (HPP.out.second HM2.out)
      rw [emid, hd2] at hcall
      clear S5
      go_wp2_with (go_at_fn 90; with_reducible refine hcall.mono ?_; rintro e w3 ⟨rfl, d3, S6, HM3⟩)
      go_end0
      exact ⟨rfl, d3, S6, HPP.out.join hb (permIn_mono _ _ j en a b (by omega) (by omega) hb HR.out.perm) HM2.out HM3⟩
     ·have f1 : (j : Int) < (m : Int) := by omega
      have f2 : (m : Int) < (en : Int) := by omega
      have f3 : (a : Int) < (j : Int) := by omega
      have f4 : (j : Int) < ((a : Int) + (b : Int)) / 2 := by omega
      have f5 : ((a : Int) + (b : Int)) / 2 < (en : Int) := by omega
      have f6 : ¬ (en : Int) < (b : Int) := by omega
      have hcall := rotate_ok enc g cb blk off cap j m en d0 d w0 wr R (by omega) S1.out (by omega) (by omega) (by omega) (by omega)
      clear S1
      go_wp2_with (go_at_fn 97; with_reducible refine hcall.mono ?_; rintro e w1 ⟨rfl, d1, S2, HR0⟩)
      clear hcall
      have HR : Hid (RotD d d1 j m en) := HR0
      have S3 : Aside (SW enc w0 blk off d1 w1) := S2
      clear HR0 S2
      have hd1 : d1.size = d.size := HR.out.perm.1
      have HPP : Hid (Parts lt cf d1 a j mid en b) := HP.out d1 HR.out
      clear HP
      have hcall := IH.out a j mid d1 w1 (by omega) (by omega) S3.out (by omega) (by omega) (by omega) HPP.out.left
      rw [emid, hd1] at hcall
      clear S3
      go_wp2_with (go_at_fn 90; with_reducible refine hcall.mono ?_; rintro e w2 ⟨rfl, d2, S4, HM0⟩)
      clear hcall
      have HM2 : Hid (Merged lt d1 d2 a mid) := HM0
      have S5 : Aside (SW enc w0 blk off d2 w2) := S4
      clear HM0 S4
      have hd2 : d2.size = d.size := HM2.out.perm.1.trans hd1
      have HM3 : Hid (Merged lt d2 d2 mid b) := Merged.none (HPP.out.second HM2.out) (by omega) (by omega) (by omega)
      go_wp2
      go_end0
      exact ⟨rfl, d2, S5.out, HPP.out.join hb (permIn_mono _ _ j en a b (by omega) (by omega) hb HR.out.perm) HM2.out HM3.out⟩
    ·by_cases h4 : en < b
     ·have f1 : (j : Int) < (m : Int) := by omega
      have f2 : (m : Int) < (en : Int) := by omega
      have f3 : ¬ (a : Int) < (j : Int) := by omega
      have f4 : (j : Int) < ((a : Int) + (b : Int)) / 2 := by omega
      have f5 : ((a : Int) + (b : Int)) / 2 < (en : Int) := by omega
      have f6 : (en : Int) < (b : Int) := by omega
      have hcall := rotate_ok enc g cb blk off cap j m en d0 d w0 wr R (by omega) S1.out (by omega) (by omega) (by omega) (by omega)
      clear S1
      go_wp2_with (go_at_fn 97; with_reducible refine hcall.mono ?_; rintro e w1 ⟨rfl, d1, S2, HR0⟩)
      clear hcall
      have HR : Hid (RotD d d1 j m en) := HR0
      have S3 : Aside (SW enc w0 blk off d1 w1) := S2
      clear HR0 S2
      have hd1 : d1.size = d.size := HR.out.perm.1
      have HPP : Hid (Parts lt cf d1 a j mid en b) := HP.out d1 HR.out
      clear HP
      obtain ⟨d2, hd2⟩ : ∃ q, q = d1 := ⟨_, rfl⟩
      have HM2 : Hid (Merged lt d1 d2 a mid) := by rw [hd2]; exact Merged.none HPP.out.left (by omega) (by omega) (by omega)
      have S5 : Aside (SW enc w0 blk off d2 w1) := by rw [hd2]; exact S3.out
      clear S3 hd2
      go_wp2_with fail
      have hd2 : d2.size = d.size := HM2.out.perm.1.trans hd1
      have hcall := IH.out mid en b d2 w1 (by omega) (by omega) S5.out (by omega) (by omega) (by omega) (HPP.out.second HM2.out)
      rw [emid, hd2] at hcall
      clear S5
      go_wp2_with (go_at_fn 90; with_reducible refine hcall.mono ?_; rintro e w3 ⟨rfl, d3, S6, HM3⟩)
      go_end0
      exact ⟨rfl, d3, S6, HPP.out.join hb (permIn_mono _ _ j en a b (by omega) (by omega) hb HR.out.perm) HM2.out HM3⟩
     ·have f1 : (j : Int) < (m : Int) := by omega
      have f2 : (m : Int) < (en : Int) := by omega
      have f3 : ¬ (a : Int) < (j : Int) := by omega
      have f4 : (j : Int) < ((a : Int) + (b : Int)) / 2 := by omega
      have f5 : ((a : Int) + (b : Int)) / 2 < (en : Int) := by omega
      have f6 : ¬ (en : Int) < (b : Int) := by omega
      have hcall := rotate_ok enc g cb blk off cap j m en d0 d w0 wr R (by omega) S1.out (by omega) (by omega) (by omega) (by omega)
      clear S1
      go_wp2_with (go_at_fn 97; with_reducible refine hcall.mono ?_; rintro e w1 ⟨rfl, d1, S2, HR0⟩)
      clear hcall
      have HR : Hid (RotD d d1 j m en) := HR0
      have S3 : Aside (SW enc w0 blk off d1 w1) := S2
      clear HR0 S2
      have hd1 : d1.size = d.size := HR.out.perm.1
      have HPP : Hid (Parts lt cf d1 a j mid en b) := HP.out d1 HR.out
      clear HP
      obtain ⟨d2, hd2⟩ : ∃ q, q = d1 := ⟨_, rfl⟩
      have HM2 : Hid (Merged lt d1 d2 a mid) := by rw [hd2]; exact Merged.none HPP.out.left (by omega) (by omega) (by omega)
      have S5 : Aside (SW enc w0 blk off d2 w1) := by rw [hd2]; exact S3.out
      clear S3 hd2
      go_wp2_with fail
      have hd2 : d2.size = d.size := HM2.out.perm.1.trans hd1
      have HM3 : Hid (Merged lt d2 d2 mid b) := Merged.none (HPP.out.second HM2.out) (by omega) (by omega) (by omega)
      go_wp2
      go_end0
      exact ⟨rfl, d2, S5.out, HPP.out.join hb (permIn_mono _ _ j en a b (by omega) (by omega) hb HR.out.perm) HM2.out HM3.out⟩
   ·by_cases h2 : j < mid
    ·have f1 : ¬ (j : Int) < (m : Int) := by omega
     have f3 : (a : Int) < (j : Int) := by omega
     have f4 : (j : Int) < ((a : Int) + (b : Int)) / 2 := by omega
     have f5 : ¬ ((a : Int) + (b : Int)) / 2 < (en : Int) := by omega
     obtain ⟨d1, hd1⟩ : ∃ q, q = d := ⟨_, rfl⟩
     have HR : Hid (RotD d d1 j m en) := by rw [hd1]; exact RotD.none (by omega) (by omega) (by omega)
     have S3 : Aside (SW enc w0 blk off d1 wr) := by rw [hd1]; exact S1.out
     clear S1 hd1
     go_wp2_with fail
     have hd1 : d1.size = d.size := HR.out.perm.1
     have HPP : Hid (Parts lt cf d1 a j mid en b) := HP.out d1 HR.out
     clear HP
     have hcall := IH.out a j mid d1 wr (by omega) (by omega) S3.out (by omega) (by omega) (by omega) HPP.out.left
     rw [emid, hd1] at hcall
     clear S3
     go_wp2_with (go_at_fn 90; with_reducible refine hcall.mono ?_; rintro e w2 ⟨rfl, d2, S4, HM0⟩)
     clear hcall
     have HM2 : Hid (Merged lt d1 d2 a mid) := HM0
     have S5 : Aside (SW enc w0 blk off d2 w2) := S4
     clear HM0 S4
     have hd2 : d2.size = d.size := HM2.out.perm.1.trans hd1
     have HM3 : Hid (Merged lt d2 d2 mid b) := Merged.none (HPP.out.second HM2.out) (by omega) (by omega) (by omega)
     go_wp2
     go_end0
     exact ⟨rfl, d2, S5.out, HPP.out.join hb (permIn_mono _ _ j en a b (by omega) (by omega) hb HR.out.perm) HM2.out HM3.out⟩
    ·have f1 : ¬ (j : Int) < (m : Int) := by omega
     have f3 : (a : Int) < (j : Int) := by omega
     have f4 : ¬ (j : Int) < ((a : Int) + (b : Int)) / 2 := by omega
     have f5 : ¬ ((a : Int) + (b : Int)) / 2 < (en : Int) := by omega
     obtain ⟨d1, hd1⟩ : ∃ q, q = d := ⟨_, rfl⟩
     have HR : Hid (RotD d d1 j m en) := by rw [hd1]; exact RotD.none (by omega) (by omega) (by omega)
     have S3 : Aside (SW enc w0 blk off d1 wr) := by rw [hd1]; exact S1.out
     clear S1 hd1
     go_wp2_with fail
     have hd1 : d1.size = d.size := HR.out.perm.1
     have HPP : Hid (Parts lt cf d1 a j mid en b) := HP.out d1 HR.out
     clear HP
     obtain ⟨d2, hd2⟩ : ∃ q, q = d1 := ⟨_, rfl⟩
     have HM2 : Hid (Merged lt d1 d2 a mid) := by rw [hd2]; exact Merged.none HPP.out.left (by omega) (by omega) (by omega)
     have S5 : Aside (SW enc w0 blk off d2 wr) := by rw [hd2]; exact S3.out
     clear S3 hd2
     go_wp2_with fail
     have hd2 : d2.size = d.size := HM2.out.perm.1.trans hd1
     have HM3 : Hid (Merged lt d2 d2 mid b) := Merged.none (HPP.out.second HM2.out) (by omega) (by omega) (by omega)
     go_wp2
     go_end0
     exact ⟨rfl, d2, S5.out, HPP.out.join hb (permIn_mono _ _ j en a b (by omega) (by omega) hb HR.out.perm) HM2.out HM3.out⟩
end Go.Proofs.C10
end
section
namespace Go.Proofs.C10
open Go Go.Proofs.R
open Go.Shelf Go.RowKit Go.Lib Go.Sort
set_option linter.unusedVariables false
set_option linter.unusedSectionVars false
set_option linter.unusedSimpArgs false
variable {α : Type} [Inhabited α]
set_option maxHeartbeats 64000000 in
set_option maxRecDepth 1000000 in
theorem symMerge_ok (enc : α → Value) (cf : α → α → Int) (lt : α → α → Prop) (tr : ∀ x y z, lt x y → lt y z → lt x z) (g : Nat) (cb : Array Value) (blk off cap : Nat) (d0 : Array α) (w0 : World)
  (eg : ∀ args w, (callFunc g args).run Try.prog w = .ok (.enter g args) w) (hcmp : CmpLays1 Try.prog g cb enc cf blk off d0.size w0) (R : Row1 enc w0 blk off d0) (hsz0 : d0.size < 4611686018427387904) : ∀ N, SymSpec enc cf lt g cb blk off cap d0 w0 N
 | 0 => by intro a m b d w hN; intros; omega
 | N + 1 => by
  intro a m b d w hN hs S ham hmb hb hM
  by_cases hm1 : m = a + 1
  ·exact sym_first enc cf lt tr g cb blk off cap d0 w0 eg hcmp R hsz0 a m b d w hs S ham hmb hb hM hm1
  ·by_cases hb1 : b = m + 1
   ·exact sym_last enc cf lt tr g cb blk off cap d0 w0 eg hcmp R hsz0 a m b d w hs S ham hmb hb hM hm1 hb1
   ·by_cases hmm : (a + b) / 2 < m
    ·exact sym_A enc cf lt tr g cb blk off cap d0 w0 eg hcmp R hsz0 N (symMerge_ok enc cf lt tr g cb blk off cap d0 w0 eg hcmp R hsz0 N) a m b d w hs S ham hmb hb hM hN hm1 hb1 _ rfl hmm
    ·exact sym_B enc cf lt tr g cb blk off cap d0 w0 eg hcmp R hsz0 N (symMerge_ok enc cf lt tr g cb blk off cap d0 w0 eg hcmp R hsz0 N) a m b d w hs S ham hmb hb hM hN hm1 hb1 _ rfl hmm
def insRen : Ren := ⟨fun | 20 => 89 | n => n, fun | 0 => 0 | 3 => 3 | 4 => 4 | 22 => 27 | 24 => 3 | 25 => 87 | n => n, fun n => n⟩
theorem laysIns : SlLaysF.n20 Try.prog insRen where
 mixed := by kernel_rfl
 f20 := ⟨Try.f89.name, by decide, Try.func89.trans (congrArg some (by kernel_rfl))⟩
 t0 := Try.underlying0
 a0 := Try.isAgg0
 z0 := Try.sizeOf0
 v0 := Try.zeroValue0
 t3 := Try.underlying3
 a3 := Try.isAgg3
 z3 := Try.sizeOf3
 v3 := Try.zeroValue3
 t4 := Try.underlying4
 a4 := Try.isAgg4
 z4 := Try.sizeOf4
 v4 := Try.zeroValue4
 t22 := Try.underlying27
 a22 := Try.isAgg27
 z22 := Try.sizeOf27
 v22 := Try.zeroValue27
 a24 := Try.isAgg3
 z24 := Try.sizeOf3
 t25 := Try.underlying87
 a25 := Try.isAgg87
 z25 := Try.sizeOf87
 v25 := Try.zeroValue87
end Go.Proofs.C10
end
section
namespace Go.Proofs.C10
open Go Go.Proofs.R
open Go.Shelf Go.RowKit Go.Lib Go.Sort
set_option linter.unusedVariables false
set_option linter.unusedSectionVars false
set_option linter.unusedSimpArgs false
variable {α : Type} [Inhabited α]
set_option maxHeartbeats 16000000 in
set_option maxRecDepth 1000000 in
theorem stable_ok (enc : α → Value) (cf : α → α → Int) (lt : α → α → Prop) (tr : ∀ x y z, lt x y → lt y z → lt x z) (tg : α → Nat) (hX : ∀ x y, tg x < tg y → CrossB lt cf x y) (g : Nat) (cb : Array Value) (blk off cap : Nat) (d0 : Array α) (w0 : World)
  (eg : ∀ args w, (callFunc g args).run Try.prog w = .ok (.enter g args) w) (hcmp : CmpLays1 Try.prog g cb enc cf blk off d0.size w0) (R : Row1 enc w0 blk off d0) (hsz0 : d0.size ≤ 4294967296) (w : World) (S : SW enc w0 blk off d0 w) (ht : ∀ k, k < d0.size → tg d0[k]! = k) :
  Calls Try.prog 75 #[.slice (some ⟨blk, off, none⟩) d0.size cap, .int .i64 d0.size, .func (.func g) #[] cb] w fun e w' => e = .returned (.tuple #[]) ∧ ∃ d', SW enc w0 blk off d' w' ∧ Merged lt d0 d' 0 d0.size := by
 have mixed : Try.prog.follows .mixedOrders = true := by kernel_rfl
 have eS : ∀ args w, (callFunc 90 args).run Try.prog w = .ok (.enter 90 args) w := enters_of Try.func90 (by kernel_rfl) rfl
 have eI : ∀ args w, (callFunc 89 args).run Try.prog w = .ok (.enter 89 args) w := enters_of Try.func89 (by kernel_rfl) rfl
 have HC : Aside _ := hcmp
 have TR : Hid (∀ x y z, lt x y → lt y z → lt x z) := tr
 have HX : Hid (∀ x y, tg x < tg y → CrossB lt cf x y) := hX
 have SYM : Hid (∀ N, SymSpec enc cf lt g cb blk off cap d0 w0 N) := symMerge_ok enc cf lt tr g cb blk off cap d0 w0 eg hcmp R (by omega)
 have INS : Hid (∀ (a b : Nat) (d : Array α) (w : World), d0.size = d.size → SW enc w0 blk off d w → a ≤ b → b ≤ d.size → d.size < 4611686018427387904 →
  Calls Try.prog 89 #[.slice (some ⟨blk, off, none⟩) d.size cap, .int .i64 a, .int .i64 b, .func (.func g) #[] cb] w fun e w' => e = .returned (.tuple #[]) ∧ SW enc w0 blk off (Sort.insertionSort (ltOf cf) d a b) w') :=
  fun a b d w h1 h2 h3 h4 h5 => Any.insertionSortCmpFunc_s (ρ := insRen) laysIns enc cf g cb blk off cap a b d0 d w0 w eg hcmp R h1 h2 h3 h4 h5
 have S0 : Aside (SW enc w0 blk off d0 w) := S
 have B0 : Hid (Blk1 lt tg d0 d0 d0.size 0) := Blk1.start ht
 clear S hcmp tr hX ht
 generalize hn : d0.size = n at hsz0 ⊢
 have HN : Hid (d0.size = n) := hn
 clear hn
 go_enter Try.func75, Try.ntmps75
 go_wp2
 go_loopg [7, 8] n (fun kx s7 s8 wr => ∃ (a : Nat) (dk : Array α), s7 = .int .i64 a ∧ s8 = .int .i64 ((a : Int) + 20) ∧ a ≤ n ∧ n - a ≤ kx ∧ Aside (SW enc w0 blk off dk wr) ∧ Hid (Blk1 lt tg d0 dk n a))
 case atStart => exact ⟨0, d0, rfl, rfl, Nat.zero_le _, Nat.le_refl _, S0, by have := B0.out; rw [HN.out] at this; exact this⟩
 case round =>
  clear S0 B0
  obtain ⟨a, dk, rfl, rfl, han, hkx, S1, HB⟩ := hrel
  have hdn : dk.size = n := HB.out.perm.1.trans HN.out
  have hd0 : Hid (d0.size = dk.size) := HB.out.perm.1.symm
  by_cases hlt : a + 20 ≤ n
  ·have hltz : (a : Int) + 20 ≤ (n : Int) := by omega
   have hcall := INS.out a (a + 20) dk wr hd0.out S1.out (by omega) (by omega) (by omega)
   have ec : ((a + 20 : Nat) : Int) = (a : Int) + 20 := by omega
   rw [ec, hdn] at hcall
   clear S1 ec
   go_wp2_with (go_at_fn 89; with_reducible refine hcall.mono ?_; rintro e w1 ⟨rfl, S2⟩)
   go_roundg (n - (a + 20))
   case measure => omega
   case rel => exact ⟨a + 20, _, by first | rfl | go_num, by first | rfl | go_num | (congr 1; omega), hlt, Nat.le_refl _, S2, HB.out.next (Nat.le_of_eq HN.out.symm) hlt (HB.out.step TR.out HX.out (Nat.le_of_eq HN.out.symm) (by omega) hlt (Nat.le_refl _))⟩
  ·have hltz : ¬ (a : Int) + 20 ≤ (n : Int) := by omega
   have hcall := INS.out a n dk wr hd0.out S1.out (by omega) (by omega) (by omega)
   rw [hdn] at hcall
   clear S1
   go_wp2_with (go_at_fn 89; with_reducible refine hcall.mono ?_; rintro e w1 ⟨rfl, S2⟩)
   clear hcall
   have S3 : Aside (SW enc w0 blk off (Sort.insertionSort (ltOf cf) dk a n) w1) := S2
   have HB2 : Hid (Blks lt tg d0 (Sort.insertionSort (ltOf cf) dk a n) n 20) := HB.out.last (Nat.le_of_eq HN.out.symm) han (by omega) (HB.out.step TR.out HX.out (Nat.le_of_eq HN.out.symm) han (Nat.le_refl _) (by omega))
   clear S2 HB hdn hd0
   go_loopg [6] n (fun kx s6 wr => ∃ (bs : Nat) (dk : Array α), s6 = .int .i64 bs ∧ 0 < bs ∧ n - bs ≤ kx ∧ Aside (SW enc w0 blk off dk wr) ∧ Hid (Blks lt tg d0 dk n bs))
   case atStart => exact ⟨20, _, rfl, by omega, by omega, S3, HB2⟩
   case round =>
    clear S3 HB2 han hkx hlt hltz
    obtain ⟨bs, dk, rfl, hbs0, hkx, S1, HB⟩ := hrel
    by_cases hlt : bs < n
    ·have hltz : (bs : Int) < (n : Int) := by omega
     go_wp2
     go_loopg [7, 8] n (fun kx s7 s8 wr => ∃ (a : Nat) (dk : Array α), s7 = .int .i64 a ∧ s8 = .int .i64 ((a : Int) + 2 * (bs : Int)) ∧ a ≤ n ∧ n - a ≤ kx ∧ Aside (SW enc w0 blk off dk wr) ∧ Hid (∃ q, a = q * (2 * bs) ∧ BlkW lt tg d0 dk n bs q))
     case atStart => exact ⟨0, dk, rfl, by first | rfl | go_num | simp, Nat.zero_le _, Nat.le_refl _, S1, ⟨0, by rw [Nat.zero_mul], BlkW.start HB.out⟩⟩
     case round =>
      clear S1 HB
      obtain ⟨a, dk, rfl, rfl, han, hkx2, S1, HQ⟩ := hrel
      have hdn : dk.size = n := by obtain ⟨q, _, hq⟩ := HQ.out; exact hq.perm.1.trans HN.out
      have hd0 : Hid (d0.size = dk.size) := by obtain ⟨q, _, hq⟩ := HQ.out; exact hq.perm.1.symm
      by_cases hlt2 : a + 2 * bs ≤ n
      ·have hltz2 : (a : Int) + 2 * (bs : Int) ≤ (n : Int) := by omega
       have HM : Hid (MergeIn lt cf dk a (a + bs) (a + 2 * bs)) := by
        obtain ⟨q, h1, hq⟩ := HQ.out
        rw [h1] at hlt2 ⊢
        exact hq.merge HX.out hbs0 (by omega) hlt2 (Nat.le_refl _) (.inr rfl)
       have hcall := SYM.out _ a (a + bs) (a + 2 * bs) dk wr (Nat.le_refl _) hd0.out S1.out (by omega) (by omega) (by omega) HM.out
       have ec1 : ((a + bs : Nat) : Int) = (a : Int) + (bs : Int) := by omega
       have ec2 : ((a + 2 * bs : Nat) : Int) = (a : Int) + 2 * (bs : Int) := by omega
       rw [ec1, ec2, hdn] at hcall
       clear S1 ec1 ec2
       go_wp2_with (go_at_fn 90; with_reducible refine hcall.mono ?_; rintro e w1 ⟨rfl, d2, S2, HM2⟩)
       go_roundg (n - (a + 2 * bs))
       case measure => omega
       case rel => exact ⟨a + 2 * bs, d2, by first | rfl | go_num | (congr 1; omega), by first | rfl | go_num | (congr 1; omega), hlt2, Nat.le_refl _, S2, by
        obtain ⟨q, h1, hq⟩ := HQ.out
        rw [h1] at HM2 hlt2 ⊢
        exact ⟨q + 1, by rw [Nat.add_mul, Nat.one_mul], hq.next hbs0 (Nat.le_of_eq HN.out.symm) hlt2 HM2⟩⟩
      ·have hltz2 : ¬ (a : Int) + 2 * (bs : Int) ≤ (n : Int) := by omega
       by_cases hlt3 : a + bs < n
       ·have hltz3 : (a : Int) + (bs : Int) < (n : Int) := by omega
        have HM : Hid (MergeIn lt cf dk a (a + bs) n) := by
         obtain ⟨q, h1, hq⟩ := HQ.out
         rw [h1] at hlt2 hlt3 ⊢
         exact hq.merge HX.out hbs0 hlt3 (Nat.le_refl _) (by omega) (.inl rfl)
        have hcall := SYM.out _ a (a + bs) n dk wr (Nat.le_refl _) hd0.out S1.out (by omega) (by omega) (by omega) HM.out
        have ec1 : ((a + bs : Nat) : Int) = (a : Int) + (bs : Int) := by omega
        rw [ec1, hdn] at hcall
        clear S1 ec1
        go_wp2_with (go_at_fn 90; with_reducible refine hcall.mono ?_; rintro e w1 ⟨rfl, d2, S2, HM2⟩)
        go_roundg (n - 2 * bs)
        case measure => omega
        case rel => exact ⟨2 * bs, d2, by first | rfl | go_num | (congr 1; omega), by omega, Nat.le_refl _, S2, by
         obtain ⟨q, h1, hq⟩ := HQ.out
         rw [h1] at HM2 hlt2 hlt3
         exact hq.last hbs0 (Nat.le_of_eq HN.out.symm) (by omega) hlt3 HM2⟩
       ·have hltz3 : ¬ (a : Int) + (bs : Int) < (n : Int) := by omega
        go_wp2
        go_roundg (n - 2 * bs)
        case measure => omega
        case rel => exact ⟨2 * bs, dk, by first | rfl | go_num | (congr 1; omega), by omega, Nat.le_refl _, S1, by
         obtain ⟨q, h1, hq⟩ := HQ.out
         rw [h1] at hlt3
         exact hq.rest hbs0 (Nat.le_of_eq HN.out.symm) (by omega)⟩
    ·have hltz : ¬ (bs : Int) < (n : Int) := by omega
     go_wp2
     go_end0
     exact ⟨rfl, dk, S1.out, HB.out.whole (by omega)⟩
end Go.Proofs.C10
end
section
namespace Go.Proofs.C10
open Go Go.Proofs.R
open Go.Shelf Go.RowKit Go.Lib Go.Sort
set_option linter.unusedVariables false
set_option linter.unusedSectionVars false
set_option linter.unusedSimpArgs false
variable {α : Type} [Inhabited α]
set_option maxHeartbeats 4000000 in
set_option maxRecDepth 1000000 in
theorem stableFunc_ok : StableSpec Try.prog 64 := by
 intro β _ enc cf lt tr tg hX g cb blk off cap d0 w0 eg hcmp R hsz0 ht
 have mixed : Try.prog.follows .mixedOrders = true := by kernel_rfl
 have eS : ∀ args w, (callFunc 75 args).run Try.prog w = .ok (.enter 75 args) w := enters_of Try.func75 (by kernel_rfl) rfl
 have hcall := stable_ok enc cf lt tr tg hX g cb blk off cap d0 w0 eg hcmp R hsz0 w0 (SW.start R.hH) ht
 clear hX tr hcmp ht eg R
 go_enter Try.func64, Try.ntmps64
 go_wp2_with (go_at_fn 75; with_reducible refine hcall.mono ?_; rintro e w1 ⟨rfl, d2, S2, HM2⟩)
 go_end0
 exact ⟨rfl, d2, S2, HM2⟩
end Go.Proofs.C10
end
section
namespace Go.Proofs.C10
open Go Go.Proofs.R
open Go.Shelf Go.RowKit Go.Lib Go.Sort
set_option linter.unusedVariables false
set_option linter.unusedSectionVars false
set_option linter.unusedSimpArgs false
variable {α : Type} [Inhabited α]
set_option maxHeartbeats 4000000 in
set_option maxRecDepth 1000000 in
theorem ins_none (A : Option Addr) (cap : Nat) (fv : Value) (w : World) : Calls Try.prog 89 #[.slice A 0 cap, .int .i64 0, .int .i64 0, fv] w fun e w' => e = .returned (.tuple #[]) ∧ w' = w := by
 have mixed : Try.prog.follows .mixedOrders = true := by kernel_rfl
 go_enter Try.func89, Try.ntmps89
 go_wp2
 refine wp_loop_rounds 1 ?_
 rw [rounds_succ]
 go_wp2
 go_end0
 exact ⟨rfl, rfl⟩
end Go.Proofs.C10
end
section
namespace Go.Proofs.C10
open Go Go.Proofs.R
open Go.Shelf Go.RowKit Go.Lib Go.Sort
set_option linter.unusedVariables false
set_option linter.unusedSectionVars false
set_option linter.unusedSimpArgs false
variable {α : Type} [Inhabited α]
set_option maxHeartbeats 4000000 in
set_option maxRecDepth 1000000 in
theorem stable_none (A : Option Addr) (cap : Nat) (fv : Value) (w : World) : Calls Try.prog 75 #[.slice A 0 cap, .int .i64 0, fv] w fun e w' => e = .returned (.tuple #[]) ∧ w' = w := by
 have mixed : Try.prog.follows .mixedOrders = true := by kernel_rfl
 have eI : ∀ args w, (callFunc 89 args).run Try.prog w = .ok (.enter 89 args) w := enters_of Try.func89 (by kernel_rfl) rfl
 have hcall := ins_none A cap fv w
 go_enter Try.func75, Try.ntmps75
 go_wp2
 refine wp_loop_rounds 1 ?_
 rw [rounds_succ]
 go_wp2_with (go_at_fn 89; with_reducible refine hcall.mono ?_; rintro e w1 ⟨rfl, rfl⟩)
 refine wp_loop_rounds 1 ?_
 rw [rounds_succ]
 go_wp2
 go_end0
 exact ⟨rfl, rfl⟩
end Go.Proofs.C10
end
section
namespace Go.Proofs.C10
open Go Go.Proofs.R
open Go.Shelf Go.RowKit Go.Lib Go.Sort
set_option linter.unusedVariables false
set_option linter.unusedSectionVars false
set_option linter.unusedSimpArgs false
variable {α : Type} [Inhabited α]
set_option maxHeartbeats 4000000 in
set_option maxRecDepth 1000000 in
theorem stableFunc_none (A : Option Addr) (cap : Nat) (g : FuncId) (cb : Array Value) (w : World) : Calls Try.prog 64 #[.slice A 0 cap, .func (.func g) #[] cb] w fun e w' => e = .returned (.tuple #[]) ∧ w' = w := by
 have mixed : Try.prog.follows .mixedOrders = true := by kernel_rfl
 have eS : ∀ args w, (callFunc 75 args).run Try.prog w = .ok (.enter 75 args) w := enters_of Try.func75 (by kernel_rfl) rfl
 have hcall := stable_none A cap (.func (.func g) #[] cb) w
 go_enter Try.func64, Try.ntmps64
 go_wp2_with (go_at_fn 75; with_reducible refine hcall.mono ?_; rintro e w1 ⟨rfl, rfl⟩)
 go_end0
 exact ⟨rfl, rfl⟩
theorem info_int : ∀ e i, Try.prog.underlying 27 = some (.slice e) → Try.prog.info? e = some i → i.size = 1 := by
 intro e i h1 h2
 have h3 : Try.prog.underlying 27 = some (.slice 3) := by kernel_rfl
 rw [h3] at h1
 simp only [Option.some.injEq, TypeDesc.slice.injEq] at h1
 subst h1
 have h4 : (Try.prog.info? 3).map (·.size) = some 1 := by kernel_rfl
 rw [h2] at h4
 simpa using h4
theorem stable_sort_ok : IntrOk Try.prog 64 (.sort 27 false true) := stable_intr 27 info_int stableFunc_none stableFunc_ok
end Go.Proofs.C10
end
