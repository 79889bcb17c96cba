/- The evaluator of the model's code over told values, and that what it tells is so: part 5. No condition. -/
import Derived.Test.YtpkckffbdojegaaMachine3
import Derived.OpenShut
import Derived.Test.YtpkckffbdojegaaMachine1
import Derived.ChangeArms
import Derived.DataReads
import Derived.Below
import Derived.Test.YtpkckffbdojegaaMachine0
import Derived.IntWalk
set_option linter.unusedVariables false
set_option linter.unusedSimpArgs false
namespace Go.Proofs.R
open Go

/-- what the row tells of a value's size -/
def Fits : (t : Ty) → t.V → Prop
  | .unit, _ => True
  | .int k, n => (Lit.int k n).wf = true
  | .bool, _ => True
  | .str, s => s.size ≤ maxLen
  | .pair a b, x => Fits a x.1 ∧ Fits b x.2
  | .sl t, xs => xs.length ≤ maxLen ∧ ∀ x ∈ xs, Fits t x
  | .arr n t, xs => xs.length = n ∧ ∀ x ∈ xs, Fits t x

def isFs (r : TypeId → Ty → Bool) : List Field → Nat → Ty → Bool
  | [], _, .unit => true
  | [f], o, t => Nat.beq f.offset o && r f.type t
  | f :: fs, o, .pair a b => Nat.beq f.offset o && r f.type a && isFs r fs (o + a.size) b
  | _, _, _ => false

/-- is this type of the program told as this one? -/
def isTy (P : Program) : Nat → TypeId → Ty → Bool
  | 0, _, _ => false
  | k + 1, T, t => Nat.beq (P.cellsOf T) t.size && match P.underlying T, t with
    | some .bool, .bool => true
    | some (.int i), .int j => decide (i = j)
    | some .string, .str => true
    | some (.slice e), .sl u => isTy P k e u && Nat.blt 0 u.size
    | some (.array n e), .arr m u => decide (n = m) && isTy P k e u
    | some (.struct fs), t => isFs (isTy P k) fs.toList 0 t
    | _, _ => false

section
variable {H : Type} {enc : TypeId × Value → H} {P : Program} {w : World} {spare : Nat → Bool} {held : Bool}

def Old (w : World) : CellSet := fun b _ => b < w.heap.size

theorem isTy_size {k : Nat} {T : TypeId} {t : Ty} (h : isTy P k T t = true) : P.cellsOf T = t.size := by
  cases k with
  | zero => cases h
  | succ k =>
    simp only [isTy, Bool.and_eq_true] at h
    exact Nat.eq_of_beq_eq_true h.1

theorem cell_add {a : Addr} {m i : Nat} {v : Value} (h : w.cell? ((a.add m).add i) = some v) : cellAt w a.block (a.off + m + i) = some v ∧ a.block < w.heap.size ∧ (m = 0 → i = 0 → a.spot = none) := by
  have hb : ((a.add m).add i).block = a.block ∧ ((a.add m).add i).off = a.off + m + i ∧ (m = 0 → i = 0 → ((a.add m).add i).spot = a.spot) := by
    unfold Addr.add
    by_cases h1 : m = 0 <;> by_cases h2 : i = 0 <;> simp [h1, h2]
  generalize (a.add m).add i = x at h hb
  obtain ⟨h1, h2, h3⟩ := hb
  unfold World.cell? at h
  split at h
  · rename_i c t fr hc
    split at h
    · cases h
    · rename_i hs
      have hs' : x.spot = none := by simpa using hs
      rw [h1] at hc
      refine ⟨?_, (Array.getElem?_eq_some_iff.1 hc).1, fun e1 e2 => by rw [← h3 e1 e2]; exact hs'⟩
      unfold cellAt World.cell?
      simp only [hc, Option.isSome_none, Bool.false_eq_true, if_false]
      rw [← h2]; exact h
  · cases h

theorem at_of_cells {a : Addr} {m : Nat} : ∀ {cs : List Value} {s : Nat}, (∀ i, i < cs.length → w.cell? ((a.add m).add (s + i)) = cs[i]?) → At (Old w) w a.block (a.off + m + s) cs
  | [], _, _ => trivial
  | v :: cs, s, h => by
    have h0 := h 0 (by simp)
    simp only [Nat.add_zero, List.getElem?_cons_zero] at h0
    obtain ⟨h1, h2, _⟩ := cell_add h0
    refine ⟨h1, h2, ?_⟩
    exact at_of_cells (cs := cs) (s := s + 1) (fun i hi => by
      have := h (i + 1) (by simp; omega)
      rw [show s + 1 + i = s + (i + 1) from by omega, this]; simp)

theorem open_fs {r : TypeId → Ty → Bool} {cs : List Value} {R : TypeId → List Value → Prop} (hr : ∀ T t, r T t = true → P.cellsOf T = t.size ∧ ∀ ds, R T ds → ∃ v : t.V, Rd (Old w) w t ds v ∧ Fits t v) :
    ∀ (fs : List Field) (o : Nat) (t : Ty), isFs r fs o t = true → (∀ f ∈ fs, R f.type ((cs.drop f.offset).take (P.cellsOf f.type))) → ∃ v : t.V, Rd (Old w) w t ((cs.drop o).take t.size) v ∧ Fits t v
  | [], o, t, h, _ => by
    cases t <;> simp [isFs] at h
    exact ⟨(), by simp [Ty.size, Rd], trivial⟩
  | [f], o, t, h, hf => by
    have h : (Nat.beq f.offset o && r f.type t) = true := by cases t <;> exact h
    simp only [Bool.and_eq_true] at h
    obtain ⟨h1, h2⟩ := hr _ _ h.2
    have := hf f List.mem_cons_self
    rw [h1, Nat.eq_of_beq_eq_true h.1] at this
    exact h2 _ this
  | f :: g :: fs, o, t, h, hf => by
    cases t with
    | pair a b =>
      simp only [isFs, Bool.and_eq_true] at h
      obtain ⟨h1, h2⟩ := hr _ _ h.1.2
      have h3 := hf f List.mem_cons_self
      rw [h1, Nat.eq_of_beq_eq_true h.1.1] at h3
      obtain ⟨v, h4, h5⟩ := h2 _ h3
      obtain ⟨u, h6, h7⟩ := open_fs hr (g :: fs) (o + a.size) b h.2 (fun x hx => hf x (List.mem_cons_of_mem _ hx))
      refine ⟨(v, u), ⟨_, _, ?_, h4, h6⟩, h5, h7⟩
      show (cs.drop o).take (a.size + b.size) = _
      rw [List.take_add, List.drop_drop]
    | _ => simp [isFs] at h

theorem open_ok : ∀ (k : Nat) (T : TypeId) (t : Ty), isTy P k T t = true → ∀ (fuel : Nat) (cs : List Value) (x : DataW H × List MemPlace), DataW.trod enc P w 0 spare held fuel T cs = some x →
    ∃ v : t.V, Rd (Old w) w t cs v ∧ Fits t v
  | 0, T, t, h, _, _, _, _ => by cases h
  | k + 1, T, t, h, fuel, cs, x, hx => by
    have hsz := isTy_size h
    simp only [isTy, Bool.and_eq_true] at h
    obtain ⟨_, h⟩ := h
    split at h
    · rename_i e1 hsz
      obtain ⟨b, rfl, _⟩ := DataW.trod_bool e1 hx
      exact ⟨b, rfl, trivial⟩
    · rename_i i j e1 hsz
      obtain ⟨n, rfl, _, hw⟩ := DataW.trod_int e1 hx
      have := of_decide_eq_true h
      subst this
      exact ⟨n, rfl, hw⟩
    · rename_i e1 hsz
      obtain ⟨s, rfl, _, hs⟩ := DataW.trod_string e1 hx
      exact ⟨s, rfl, hs⟩
    · rename_i e u e1 hsz
      simp only [Bool.and_eq_true] at h
      have hesz := isTy_size h.1
      have hpos : 0 < u.size := Nat.le_of_ble_eq_true h.2
      rcases DataW.trod_slice e1 hx with ⟨rfl, _⟩ | ⟨a, len, cap, elems, rest, n, _, rfl, _, _, hlc, hcm, hlen, hel, _⟩
      · exact ⟨[], ⟨none, 0, rfl, Nat.le_refl _, .inl rfl⟩, Nat.zero_le _, fun _ h => by cases h⟩
      · have key : ∀ m j, j + m = len → ∃ (xs : List u.V) (ds : List Value), xs.length = m ∧ RdsOf (Rd (Old w) w u) ds xs ∧ At (Old w) w a.block (a.off + j * u.size) ds ∧ (∀ x ∈ xs, Fits u x) ∧ (xs ≠ [] → j = 0 → a.spot = none) := by
          intro m
          induction m with
          | zero => intro j _; exact ⟨[], [], rfl, rfl, trivial, fun _ h => (by cases h), fun h => (h rfl).elim⟩
          | succ m ih =>
            intro j hj
            obtain ⟨xs, ds, h1, h2, h3, h4, h5⟩ := ih (j + 1) (by omega)
            have hb := hel j (by omega)
            rw [List.getElem?_eq_getElem (by omega), Option.bind_eq_some_iff] at hb
            obtain ⟨cs', hc1, hc2⟩ := hb
            obtain ⟨v, h6, h7⟩ := open_ok k e u h.1 n cs' _ hc2
            rw [hesz] at hc1
            obtain ⟨_, hl', hc3⟩ := World.cells?_some hc1
            have h8 := at_of_cells (w := w) (a := a) (m := j * u.size) (cs := cs') (s := 0) (fun i hi => by rw [Nat.zero_add]; exact hc3 i (by omega))
            rw [Nat.add_zero] at h8
            have h9 : j = 0 → a.spot = none := by
              intro hj0
              have h10 := hc3 0 (by omega)
              rw [List.getElem?_eq_getElem (by omega)] at h10
              exact (cell_add h10).2.2 (by simp [hj0]) rfl
            refine ⟨v :: xs, cs' ++ ds, by simp [h1], ⟨cs', ds, rfl, h6, h2⟩, ?_, ?_, fun _ hj0 => h9 hj0⟩
            · rw [At_append]
              refine ⟨h8, ?_⟩
              rw [hl', show a.off + j * u.size + u.size = a.off + (j + 1) * u.size from by rw [Nat.add_mul]; omega]
              exact h3
            · intro x hx
              rcases List.mem_cons.1 hx with rfl | hx
              · exact h7
              · exact h4 x hx
        obtain ⟨xs, ds, h1, h2, h3, h4, h5⟩ := key len 0 (by omega)
        refine ⟨xs, ⟨some a, cap, by rw [← h1], by rw [h1]; exact hlc, ?_⟩, by rw [h1]; exact Nat.le_trans hlc hcm, h4⟩
        by_cases hx0 : xs = []
        · exact .inl hx0
        · refine .inr ⟨a.block, a.off, ds, ?_, h2, by simpa using h3⟩
          have := h5 hx0 rfl
          cases a; simp at this; subst this; rfl
    · rename_i n e m u e1 _
      simp only [Bool.and_eq_true, decide_eq_true_eq] at h
      obtain ⟨rfl, h⟩ := h
      have hesz := isTy_size h
      obtain ⟨xs, q, _, _, hlen, hxl, hel⟩ := DataW.trod_array e1 hx
      have hcl : cs.length = n * u.size := by rw [hlen, hsz]; rfl
      have key : ∀ m j, j + m = n → ∃ ys : List u.V, ys.length = m ∧ RdsOf (Rd (Old w) w u) (cs.drop (j * u.size)) ys ∧ ∀ y ∈ ys, Fits u y := by
        intro m
        induction m with
        | zero =>
          intro j hj
          refine ⟨[], rfl, ?_, fun _ h => by cases h⟩
          have : j = n := by omega
          subst this
          exact List.drop_of_length_le (by omega)
        | succ m ih =>
          intro j hj
          obtain ⟨ys, h1, h2, h3⟩ := ih (j + 1) (by omega)
          have hb := hel j (by omega)
          rw [List.getElem?_eq_getElem (by omega), hesz] at hb
          obtain ⟨v, h4, h5⟩ := open_ok k e u h q _ _ hb
          refine ⟨v :: ys, by simp [h1], ⟨_, _, ?_, h4, h2⟩, ?_⟩
          · rw [show (j + 1) * u.size = j * u.size + u.size from by rw [Nat.add_mul]; omega, ← List.drop_drop, List.take_append_drop]
          · intro y hy
            rcases List.mem_cons.1 hy with rfl | hy
            · exact h5
            · exact h3 y hy
      obtain ⟨ys, h1, h2, h3⟩ := key n 0 (by omega)
      exact ⟨ys, ⟨h1, by simpa using h2⟩, h1, h3⟩
    · rename_i fs e1 _
      obtain ⟨xs, n, _, _, hlen, hxl, hf⟩ := DataW.trod_struct e1 hx
      have := open_fs (P := P) (w := w) (cs := cs) (r := isTy P k) (R := fun T ds => ∃ y, DataW.trod enc P w 0 spare held n T ds = some y) (fun T t hT => ⟨isTy_size hT, fun ds ⟨y, hy⟩ => open_ok k T t hT n ds y hy⟩) fs.toList 0 _ h (by
        intro f hm
        obtain ⟨i, hi⟩ := List.getElem?_of_mem hm
        have hi' : fs[i]? = some f := by simpa using hi
        have hlt : i < xs.length := by rw [hxl]; exact (Array.getElem?_eq_some_iff.1 hi').1
        exact ⟨_, (hf i f hi').trans (List.getElem?_eq_getElem hlt)⟩)
      rw [List.drop_zero, List.take_of_length_le (by omega)] at this
      exact this
    · cases h
end
end Go.Proofs.R

/- From a call that is told to a row's walk. -/
namespace Go.Proofs.R
open Go Go.RowKit

section
variable {H : Type} {enc : TypeId × Value → H} {P : Program} {c : Ctx} {w : World} {spare : Nat → Bool} {held : Bool}

/-- an argument of several cells; of one cell -/
def oneOf : List Lf → AV
  | [l] => .one l
  | _ => .agg []

/-- where a row's call stands -/
def rowRP (w : World) : RP := Fr.rp ⟨w, fun _ => False, Old w⟩ (Old w) noBase (fun _ => none) w

/-- what a parameter's value is, by its type -/
def plainU : Option TypeDesc → Bool
  | some .bool | some (.int _) | some .string | some (.slice _) => true
  | _ => false
theorem bool_ret {p : RP} {sh : Bool} {cs ws : List Value} {ns : List Nat} (h : RetL p sh [.ro .bool] ((true, ()) : Bool × Unit) cs ns) (h2 : ResV [(false, [.ro .bool])] cs ws) : ws = [.bool true] := by
  obtain ⟨c1, d1, rfl, h3, rfl, _⟩ := h
  simp only [Rd] at h3; subst h3
  obtain ⟨c2, r2, v, vr, e, rfl, h4, _, rfl, rfl⟩ := h2
  simp only [List.append_nil] at e
  simp only [Bool.false_eq_true, if_false] at h4
  rw [h4] at e
  simp only [List.cons.injEq, and_true] at e
  rw [e]

/-- a law's call -/
theorem law_walk {f : FuncId} {args : List AV} {r : HV (rsTys ((c.ret f).flatMap (·.2)))} (h : CallOk P c f args r) {vs : Array Value} (ha : RelAVs (rowRP w) args vs.toList)
    (hr : ∀ p sh cs ws ns, RetL p sh ((c.ret f).flatMap (·.2)) r cs ns → ResV (c.ret f) cs ws → ws = [.bool true]) :
    Calls P f vs w fun e w' => e = .returned (.bool true) ∧ Below w.heap.size w w' := by
  refine (h.2 w (Old w) vs (fun _ _ h => h) ha).mono ?_
  rintro e w' ⟨S', β', O', cs, ws, ns, rfl, hc, hret, _, hres⟩
  have := hr _ _ _ _ _ hret hres
  subst this
  exact ⟨rfl, hc.os, hc.tape, hc.output, hc.size, fun k hk => hc.keep k hk id⟩
end
end Go.Proofs.R

/- Plain words for plain laws. -/
namespace Go.Proofs.R
open Go

theorem bindD_some {α β : Type} (a : α) (f : α → Option β) : bindD (some a) f = f a := rfl
theorem ifB_true {α : Type} (x y : Option α) : ifB true x y = x := rfl
theorem ifB_false {α : Type} (x y : Option α) : ifB false x y = y := rfl
theorem ifB_of {α : Type} {b : Bool} (x y : Option α) (h : b = true) : ifB b x y = x := by rw [h]; rfl
theorem ifB_not {α : Type} {b : Bool} (x y : Option α) (h : b = false) : ifB b x y = y := by rw [h]; rfl

theorem ixAt_nat {α : Type} (xs : List α) (n : Nat) : ixAt xs (n : Int) = xs[n]? := by
  unfold ixAt; rw [if_pos (by omega)]; rfl
theorem ixAt_at {α : Type} (p : List α) (x : α) (s : List α) : ixAt (p ++ x :: s) (p.length : Int) = some x := by
  rw [ixAt_nat]; simp
theorem grow_ok {n : Nat} (h : n ≤ 4294967296) : grow n = some () := by
  unfold grow mostLen; rw [if_pos h]

theorem w64 {n : Int} (h : -9223372036854775808 ≤ n ∧ n ≤ 9223372036854775807) : IntKind.i64.wrap n = n := IntWalk.i64_in n h
theorem w64_succ {n : Nat} (h : n < 9223372036854775807) : IntKind.i64.wrap ((n : Int) + 1) = ((n + 1 : Nat) : Int) := by
  rw [w64 (by omega)]; omega
end Go.Proofs.R

/- What sorting comes to, in plain words. -/
namespace Go.Proofs.R
open Go

end Go.Proofs.R

