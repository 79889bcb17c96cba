/- The evaluator of the model's code over told values, and that what it tells is so: part 5. No condition. -/
import Derived.Test.YtmbloefhgkhoaaaMachine3
import Derived.Below
import Derived.Test.YtmbloefhgkhoaaaMachine0
import Derived.IntWalk
set_option linter.unusedVariables false
set_option linter.unusedSimpArgs false
namespace Go.Proofs.R
open Go Go.RowKit

section
variable {H : Type} {enc : TypeId × Value → H} {P : Program} {c : Ctx} {w : World} {spare : Nat → Bool} {held : Bool}

/-- an argument of several cells; of one cell -/
def oneOf : List Lf → AV
  | [l] => .one l
  | _ => .agg []

/-- where a row's call stands -/
def rowRP (w : World) : RP := Fr.rp ⟨w, fun _ => False, Old w⟩ (Old w) noBase (fun _ => none) w

theorem arg_agg {k : Nat} {T : TypeId} {t : Ty} (h : isTy P k T t = true) {cs : Array Value} {d : DataW H} {ps : List MemPlace} (hd : DataW.Trod enc P w 0 spare held T (.agg cs) d ps) :
    ∃ x : t.V, RelAV (rowRP w) (.agg (leaves t x)) (.agg cs) ∧ Fits t x := by
  obtain ⟨fuel, hf⟩ := hd
  obtain ⟨x, hx, hfit⟩ := open_ok k T t h fuel _ _ hf
  exact ⟨x, ⟨cs, rfl, RelLs_leaves (p := rowRP w) t hx⟩, hfit⟩

theorem arg_one {k : Nat} {T : TypeId} {t : Ty} (h : isTy P k T t = true) {v : Value} {d : DataW H} {ps : List MemPlace} (hd : DataW.Trod enc P w 0 spare held T v d ps) (hv : v.cells.toList = [v]) (hl : ∀ x : t.V, ∃ l, leaves t x = [l]) :
    ∃ x : t.V, RelAV (rowRP w) (oneOf (leaves t x)) v ∧ Fits t x := by
  obtain ⟨fuel, hf⟩ := hd
  rw [hv] at hf
  obtain ⟨x, hx, hfit⟩ := open_ok k T t h fuel _ _ hf
  obtain ⟨l, hl⟩ := hl x
  have hr := RelLs_leaves (p := rowRP w) t hx
  refine ⟨x, ?_, hfit⟩
  rw [hl] at hr ⊢
  obtain ⟨c1, d1, e, h1, h2⟩ := hr
  simp only [RelLs] at h2; subst h2
  simp only [List.append_nil] at e; subst e
  exact .inr h1

/-- what a parameter's value is, by its type -/
def plainU : Option TypeDesc → Bool
  | some .bool | some (.int _) | some .string | some (.slice _) => true
  | _ => false
def structU : Option TypeDesc → Bool
  | some (.struct _) => true
  | _ => false

theorem arg_struct {r : Reach} {base k : Nat} {T : TypeId} {t : Ty} (hu : structU (P.underlying T) = true) (h : isTy P k T t = true) {v : Value} (hok : Value.okWide P w r base T v) {d : DataW H} {ps : List MemPlace} (hd : DataW.Trod enc P w 0 spare held T v d ps) :
    ∃ x : t.V, RelAV (rowRP w) (.agg (leaves t x)) v ∧ Fits t x := by
  unfold Value.okWide at hok
  split at hok
  · obtain ⟨cs, rfl, _⟩ := hok; exact arg_agg h hd
  · obtain ⟨cs, rfl, _⟩ := hok; exact arg_agg h hd
  · rename_i hne _
    unfold structU at hu
    split at hu
    · rename_i fs hf; exact absurd hf (hne fs)
    · cases hu

theorem arg_plain {r : Reach} {base k : Nat} {T : TypeId} {t : Ty} (hu : plainU (P.underlying T) = true) (h : isTy P k T t = true) {v : Value} (hok : Value.okWide P w r base T v) {d : DataW H} {ps : List MemPlace} (hd : DataW.Trod enc P w 0 spare held T v d ps) (hl : ∀ x : t.V, ∃ l, leaves t x = [l]) :
    ∃ x : t.V, RelAV (rowRP w) (oneOf (leaves t x)) v ∧ Fits t x := by
  refine arg_one h hd ?_ hl
  unfold Value.okWide Cell.okWide Cell.ok at hok
  unfold plainU at hu
  split at hu
  all_goals try (cases hu; done)
  all_goals
    rename_i hf
    rw [hf] at hok
    cases v <;> first | rfl | (exact absurd hok (by simp))

theorem bool_ret {p : RP} {sh : Bool} {cs ws : List Value} {ns : List Nat} (h : RetL p sh [.ro .bool] ((true, ()) : Bool × Unit) cs ns) (h2 : ResV [(false, [.ro .bool])] cs ws) : ws = [.bool true] := by
  obtain ⟨c1, d1, rfl, h3, rfl, _⟩ := h
  simp only [Rd] at h3; subst h3
  obtain ⟨c2, r2, v, vr, e, rfl, h4, _, rfl, rfl⟩ := h2
  simp only [List.append_nil] at e
  simp only [Bool.false_eq_true, if_false] at h4
  rw [h4] at e
  simp only [List.cons.injEq, and_true] at e
  rw [e]

/-- a law's call -/
theorem law_walk {f : FuncId} {args : List AV} {r : HV (rsTys ((c.ret f).flatMap (·.2)))} (h : CallOk P c f args r) {vs : Array Value} (ha : RelAVs (rowRP w) args vs.toList)
    (hr : ∀ p sh cs ws ns, RetL p sh ((c.ret f).flatMap (·.2)) r cs ns → ResV (c.ret f) cs ws → ws = [.bool true]) :
    Calls P f vs w fun e w' => e = .returned (.bool true) ∧ Below w.heap.size w w' := by
  refine (h.2 w (Old w) vs (fun _ _ h => h) ha).mono ?_
  rintro e w' ⟨S', β', O', cs, ws, ns, rfl, hc, hret, _, hres⟩
  have := hr _ _ _ _ _ hret hres
  subst this
  exact ⟨rfl, hc.os, hc.tape, hc.output, hc.size, fun k hk => hc.keep k hk id⟩
end
end Go.Proofs.R

/- Plain words for plain laws. -/
namespace Go.Proofs.R
open Go

theorem bindD_some {α β : Type} (a : α) (f : α → Option β) : bindD (some a) f = f a := rfl
theorem bindD_none {α β : Type} (f : α → Option β) : bindD none f = none := rfl
theorem ifB_true {α : Type} (x y : Option α) : ifB true x y = x := rfl
theorem ifB_false {α : Type} (x y : Option α) : ifB false x y = y := rfl
theorem ifB_ite {α : Type} (b : Bool) (x y : Option α) : ifB b x y = if b then x else y := by cases b <;> rfl
theorem ifB_of {α : Type} {b : Bool} (x y : Option α) (h : b = true) : ifB b x y = x := by rw [h]; rfl
theorem ifB_not {α : Type} {b : Bool} (x y : Option α) (h : b = false) : ifB b x y = y := by rw [h]; rfl

theorem ixAt_nat {α : Type} (xs : List α) (n : Nat) : ixAt xs (n : Int) = xs[n]? := by
  unfold ixAt; rw [if_pos (by omega)]; rfl
theorem ixAt_at {α : Type} (p : List α) (x : α) (s : List α) : ixAt (p ++ x :: s) (p.length : Int) = some x := by
  rw [ixAt_nat]; simp
theorem ixAt_zero {α : Type} (x : α) (s : List α) : ixAt (x :: s) 0 = some x := ixAt_at [] x s
theorem strAt_nat (s : ByteArray) (n : Nat) : strAt s (n : Int) = s[n]?.map fun b => (b.toNat : Int) := by
  unfold strAt; rw [if_pos (by omega)]; rfl

theorem grow_ok {n : Nat} (h : n ≤ 4294967296) : grow n = some () := by
  unfold grow mostLen; rw [if_pos h]

theorem w64 {n : Int} (h : -9223372036854775808 ≤ n ∧ n ≤ 9223372036854775807) : IntKind.i64.wrap n = n := IntWalk.i64_in n h
theorem w64_nat {n : Nat} (h : n < 9223372036854775808) : IntKind.i64.wrap (n : Int) = n := w64 (by omega)
theorem w64_succ {n : Nat} (h : n < 9223372036854775807) : IntKind.i64.wrap ((n : Int) + 1) = ((n + 1 : Nat) : Int) := by
  rw [w64 (by omega)]; omega
end Go.Proofs.R

