/- The arguments of a row, opened, with the bounds that the row tells of their sizes. -/
import Derived.Test.YtpkckffbdojegaaMachine4
import Derived.SizedLaws
set_option linter.unusedVariables false
set_option linter.unusedSimpArgs false
namespace Go.Proofs.R
open Go Go.RowKit

/-- what the row's weights tell of a value's size -/
def FitsW : (t : Ty) → t.V → Prop
  | .pair a b, x => FitsW a x.1 ∧ FitsW b x.2
  | .sl t, xs => xs.length ≤ reachBytes ∧ ∀ x ∈ xs, FitsW t x
  | _, _ => True

/-- each element of a slice has bytes -/
def isTyW (P : Program) : Nat → TypeId → Bool
  | 0, _ => false
  | k + 1, T => match P.underlying T with
    | some (.slice e) => Nat.blt 0 (P.bytesOf e) && isTyW P k e
    | some (.struct fs) => fs.toList.all fun f => isTyW P k f.type
    | some .bool | some (.int _) | some .string => true
    | some (.array _ _) => true
    | _ => false

section
variable {H : Type} {enc : TypeId × Value → H} {P : Program} {w : World} {spare : Nat → Bool} {held : Bool}

theorem weights_at {ts : List TypeId} {ds : List (DataW H)} (h : (DataW.weightsEach P ts ds).all (· ≤ reachBytes) = true) {j : Nat} {t : TypeId} {d : DataW H} (ht : ts[j]? = some t) (hd : ds[j]? = some d) : ∀ n ∈ d.weights P t, n ≤ reachBytes :=
  fun n hn => by simpa using List.all_eq_true.1 h n (DataW.weights_mem_each ht hd n hn)

theorem weights_all {e : TypeId} : ∀ {ds : List (DataW H)} {j : Nat} {d : DataW H}, ds[j]? = some d → ∀ n ∈ d.weights P e, n ∈ DataW.weightsAll P e ds
  | [], _, _, h, _, _ => by simp at h
  | d0 :: ds, 0, d, h, n, hn => by
    simp at h; subst h
    exact List.mem_append_left _ hn
  | d0 :: ds, j + 1, d, h, n, hn => List.mem_append_right _ (weights_all (by simpa using h) n hn)

theorem open_fsW {r : TypeId → Ty → Bool} {cs : List Value} {R : TypeId → List Value → Prop} (hr : ∀ T t, r T t = true → P.cellsOf T = t.size ∧ ∀ ds, R T ds → ∃ v : t.V, Rd (Old w) w t ds v ∧ Fits t v ∧ FitsW t v) :
    ∀ (fs : List Field) (o : Nat) (t : Ty), isFs r fs o t = true → (∀ f ∈ fs, R f.type ((cs.drop f.offset).take (P.cellsOf f.type))) → ∃ v : t.V, Rd (Old w) w t ((cs.drop o).take t.size) v ∧ Fits t v ∧ FitsW t v
  | [], o, t, h, _ => by
    cases t <;> simp [isFs] at h
    exact ⟨(), by simp [Ty.size, Rd], trivial, trivial⟩
  | [f], o, t, h, hf => by
    have h : (Nat.beq f.offset o && r f.type t) = true := by cases t <;> exact h
    simp only [Bool.and_eq_true] at h
    obtain ⟨h1, h2⟩ := hr _ _ h.2
    have := hf f List.mem_cons_self
    rw [h1, Nat.eq_of_beq_eq_true h.1] at this
    exact h2 _ this
  | f :: g :: fs, o, t, h, hf => by
    cases t with
    | pair a b =>
      simp only [isFs, Bool.and_eq_true] at h
      obtain ⟨h1, h2⟩ := hr _ _ h.1.2
      have h3 := hf f List.mem_cons_self
      rw [h1, Nat.eq_of_beq_eq_true h.1.1] at h3
      obtain ⟨v, h4, h5, h5w⟩ := h2 _ h3
      obtain ⟨u, h6, h7, h7w⟩ := open_fsW hr (g :: fs) (o + a.size) b h.2 (fun x hx => hf x (List.mem_cons_of_mem _ hx))
      refine ⟨(v, u), ⟨_, _, ?_, h4, h6⟩, ⟨h5, h7⟩, h5w, h7w⟩
      show (cs.drop o).take (a.size + b.size) = _
      rw [List.take_add, List.drop_drop]
    | _ => simp [isFs] at h

theorem open_okW : ∀ (k : Nat) (T : TypeId) (t : Ty), isTy P k T t = true → isTyW P k T = true → ∀ (fuel : Nat) (cs : List Value) (x : DataW H × List MemPlace), DataW.trod enc P w 0 spare held fuel T cs = some x →
    (∀ n ∈ x.1.weights P T, n ≤ reachBytes) → ∃ v : t.V, Rd (Old w) w t cs v ∧ Fits t v ∧ FitsW t v
  | 0, T, t, h, _, _, _, _, _, _ => by cases h
  | k + 1, T, t, h, hW, fuel, cs, x, hx, hwt => by
    have hsz := isTy_size h
    have h0 := h
    simp only [isTy, Bool.and_eq_true] at h
    obtain ⟨_, h⟩ := h
    split at h
    · rename_i e1 hsz
      obtain ⟨b, rfl, _⟩ := DataW.trod_bool e1 hx
      exact ⟨b, rfl, trivial, trivial⟩
    · rename_i i j e1 hsz
      obtain ⟨n, rfl, _, hw⟩ := DataW.trod_int e1 hx
      have := of_decide_eq_true h
      subst this
      exact ⟨n, rfl, hw, trivial⟩
    · rename_i e1 hsz
      obtain ⟨s, rfl, _, hs⟩ := DataW.trod_string e1 hx
      exact ⟨s, rfl, hs, trivial⟩
    · rename_i e u e1 hsz
      simp only [Bool.and_eq_true] at h
      have hesz := isTy_size h.1
      have hpos : 0 < u.size := Nat.le_of_ble_eq_true h.2
      unfold isTyW at hW
      rw [e1] at hW
      simp only [Bool.and_eq_true] at hW
      have hby : 0 < P.bytesOf e := Nat.le_of_ble_eq_true hW.1
      rcases DataW.trod_slice e1 hx with ⟨rfl, _⟩ | ⟨a, len, cap, elems, rest, n, _, rfl, hxe, _, hlc, hcm, hlen, hel, _⟩
      · exact ⟨[], ⟨none, 0, rfl, Nat.le_refl _, .inl rfl⟩, ⟨Nat.zero_le _, fun _ h => by cases h⟩, Nat.zero_le _, fun _ h => by cases h⟩
      · have hwts : x.1.weights P T = ((elems.map (·.1)).length + (rest.map (·.1)).length) * P.bytesOf e :: (DataW.weightsAll P e (elems.map (·.1)) ++ DataW.weightsAll P e (rest.map (·.1))) := by
          rw [hxe]; simp [DataW.weights, e1]
        rw [hwts] at hwt
        have hlw : len ≤ reachBytes := by
          have h1 := hwt _ List.mem_cons_self
          rw [List.length_map, List.length_map, hlen] at h1
          have h2 : len * 1 ≤ (len + rest.length) * P.bytesOf e := Nat.mul_le_mul (Nat.le_add_right _ _) hby
          omega
        have key : ∀ m j, j + m = len → ∃ (xs : List u.V) (ds : List Value), xs.length = m ∧ RdsOf (Rd (Old w) w u) ds xs ∧ At (Old w) w a.block (a.off + j * u.size) ds ∧ (∀ x ∈ xs, Fits u x ∧ FitsW u x) ∧ (xs ≠ [] → j = 0 → a.spot = none) := by
          intro m
          induction m with
          | zero => intro j _; exact ⟨[], [], rfl, rfl, trivial, fun _ h => (by cases h), fun h => (h rfl).elim⟩
          | succ m ih =>
            intro j hj
            obtain ⟨xs, ds, h1, h2, h3, h4, h5⟩ := ih (j + 1) (by omega)
            have hb := hel j (by omega)
            have hej : elems[j]? = some (elems[j]'(by omega)) := List.getElem?_eq_getElem (by omega)
            rw [hej, Option.bind_eq_some_iff] at hb
            obtain ⟨cs', hc1, hc2⟩ := hb
            have hwj : ∀ n ∈ (elems[j]'(by omega)).1.weights P e, n ≤ reachBytes := by
              intro n hn
              refine hwt n (List.mem_cons_of_mem _ (List.mem_append_left _ (weights_all (j := j) ?_ n hn)))
              rw [List.getElem?_map, hej]; rfl
            obtain ⟨v, h6, h7⟩ := open_okW k e u h.1 hW.2 n cs' _ hc2 hwj
            rw [hesz] at hc1
            obtain ⟨_, hl', hc3⟩ := World.cells?_some hc1
            have h8 := at_of_cells (w := w) (a := a) (m := j * u.size) (cs := cs') (s := 0) (fun i hi => by rw [Nat.zero_add]; exact hc3 i (by omega))
            rw [Nat.add_zero] at h8
            have h9 : j = 0 → a.spot = none := by
              intro hj0
              have h10 := hc3 0 (by omega)
              rw [List.getElem?_eq_getElem (by omega)] at h10
              exact (cell_add h10).2.2 (by simp [hj0]) rfl
            refine ⟨v :: xs, cs' ++ ds, by simp [h1], ⟨cs', ds, rfl, h6, h2⟩, ?_, ?_, fun _ hj0 => h9 hj0⟩
            · rw [At_append]
              refine ⟨h8, ?_⟩
              rw [hl', show a.off + j * u.size + u.size = a.off + (j + 1) * u.size from by rw [Nat.add_mul]; omega]
              exact h3
            · intro x hx
              rcases List.mem_cons.1 hx with rfl | hx
              · exact h7
              · exact h4 x hx
        obtain ⟨xs, ds, h1, h2, h3, h4, h5⟩ := key len 0 (by omega)
        refine ⟨xs, ⟨some a, cap, by rw [← h1], by rw [h1]; exact hlc, ?_⟩, ⟨by rw [h1]; exact Nat.le_trans hlc hcm, fun x hx => (h4 x hx).1⟩, by rw [h1]; exact hlw, fun x hx => (h4 x hx).2⟩
        by_cases hx0 : xs = []
        · exact .inl hx0
        · refine .inr ⟨a.block, a.off, ds, ?_, h2, by simpa using h3⟩
          have := h5 hx0 rfl
          cases a; simp at this; subst this; rfl
    · obtain ⟨v, h1, h2⟩ := open_ok _ T _ h0 fuel cs x hx
      exact ⟨v, h1, h2, trivial⟩
    · rename_i fs e1 _
      obtain ⟨xs, n, _, hxe, hlen, hxl, hf⟩ := DataW.trod_struct e1 hx
      unfold isTyW at hW
      rw [e1] at hW
      simp only [List.all_eq_true] at hW
      have hwts : x.1.weights P T = DataW.weightsEach P (fs.toList.map (·.type)) (xs.map (·.1)) := by
        rw [hxe]; simp [DataW.weights, e1]
      rw [hwts] at hwt
      have := open_fsW (P := P) (w := w) (cs := cs) (r := fun T t => isTy P k T t && isTyW P k T) (R := fun T ds => ∃ y, DataW.trod enc P w 0 spare held n T ds = some y ∧ ∀ n ∈ y.1.weights P T, n ≤ reachBytes)
        (fun T t hT => ⟨isTy_size (Bool.and_eq_true_iff.1 hT).1, fun ds ⟨y, hy, hyw⟩ => open_okW k T t (Bool.and_eq_true_iff.1 hT).1 (Bool.and_eq_true_iff.1 hT).2 n ds y hy hyw⟩) fs.toList 0 _ (isFs_more (fun f hf => hW f hf) h) (by
        intro f hm
        obtain ⟨i, hi⟩ := List.getElem?_of_mem hm
        have hi' : fs[i]? = some f := by simpa using hi
        have hlt : i < xs.length := by rw [hxl]; exact (Array.getElem?_eq_some_iff.1 hi').1
        have hxi : xs[i]? = some xs[i] := List.getElem?_eq_getElem hlt
        refine ⟨_, (hf i f hi').trans hxi, fun n hn => hwt n (DataW.weights_mem_each (j := i) (t := f.type) (d := xs[i].1) ?_ ?_ n hn)⟩
        · rw [List.getElem?_map, hi]; rfl
        · rw [List.getElem?_map, hxi]; rfl)
      rw [List.drop_zero, List.take_of_length_le (by omega)] at this
      exact this
    · cases h
where
  isFs_more {r : TypeId → Ty → Bool} {g : TypeId → Bool} : ∀ {fs : List Field} {o : Nat} {t : Ty}, (∀ f ∈ fs, g f.type = true) → isFs r fs o t = true → isFs (fun T t => r T t && g T) fs o t = true
    | [], o, t, _, h => by cases t <;> first | exact h | cases h
    | [f], o, t, hg, h => by
      have h : (Nat.beq f.offset o && r f.type t) = true := by cases t <;> exact h
      rw [Bool.and_eq_true] at h
      have : (Nat.beq f.offset o && (r f.type t && g f.type)) = true := by rw [h.1, h.2, hg f List.mem_cons_self]; rfl
      cases t <;> exact this
    | f :: f2 :: fs, o, t, hg, h => by
      cases t with
      | pair a b =>
        simp only [isFs, Bool.and_eq_true] at h ⊢
        exact ⟨⟨h.1.1, h.1.2, hg f List.mem_cons_self⟩, isFs_more (fun x hx => hg x (List.mem_cons_of_mem _ hx)) h.2⟩
      | _ => simp [isFs] at h

theorem arg_structW {r : Reach} {base k : Nat} {T : TypeId} {t : Ty} (hu : structU (P.underlying T) = true) (h : isTy P k T t = true) (hW : isTyW P k T = true) {v : Value} (hok : Value.okWide P w r base T v) {d : DataW H} {ps : List MemPlace} (hd : DataW.Trod enc P w 0 spare held T v d ps) (hw : ∀ n ∈ d.weights P T, n ≤ reachBytes) :
    ∃ x : t.V, RelAV (rowRP w) (.agg (leaves t x)) v ∧ Fits t x ∧ FitsW t x := by
  have key : ∀ cs : Array Value, v = .agg cs → ∃ x : t.V, RelAV (rowRP w) (.agg (leaves t x)) v ∧ Fits t x ∧ FitsW t x := by
    rintro cs rfl
    obtain ⟨fuel, hf⟩ := hd
    obtain ⟨x, hx, hfit⟩ := open_okW k T t h hW fuel _ _ hf hw
    exact ⟨x, ⟨cs, rfl, RelLs_leaves (p := rowRP w) t hx⟩, hfit⟩
  unfold Value.okWide at hok
  split at hok
  · obtain ⟨cs, rfl, _⟩ := hok; exact key _ rfl
  · obtain ⟨cs, rfl, _⟩ := hok; exact key _ rfl
  · rename_i hne _
    unfold structU at hu
    split at hu
    · rename_i fs hf; exact absurd hf (hne fs)
    · cases hu

theorem arg_plainW {r : Reach} {base k : Nat} {T : TypeId} {t : Ty} (hu : plainU (P.underlying T) = true) (h : isTy P k T t = true) (hW : isTyW P k T = true) {v : Value} (hok : Value.okWide P w r base T v) {d : DataW H} {ps : List MemPlace} (hd : DataW.Trod enc P w 0 spare held T v d ps) (hw : ∀ n ∈ d.weights P T, n ≤ reachBytes) (hl : ∀ x : t.V, ∃ l, leaves t x = [l]) :
    ∃ x : t.V, RelAV (rowRP w) (oneOf (leaves t x)) v ∧ Fits t x ∧ FitsW t x := by
  have hv : v.cells.toList = [v] := by
    unfold Value.okWide Cell.okWide Cell.ok at hok
    unfold plainU at hu
    split at hu
    all_goals try (cases hu; done)
    all_goals
      rename_i hf
      rw [hf] at hok
      cases v <;> first | rfl | (exact absurd hok (by simp))
  obtain ⟨fuel, hf⟩ := hd
  rw [hv] at hf
  obtain ⟨x, hx, hfit⟩ := open_okW k T t h hW fuel _ _ hf hw
  obtain ⟨l, hl⟩ := hl x
  have hr := RelLs_leaves (p := rowRP w) t hx
  refine ⟨x, ?_, hfit⟩
  rw [hl] at hr ⊢
  obtain ⟨c1, d1, e, h1, h2⟩ := hr
  simp only [RelLs] at h2; subst h2
  simp only [List.append_nil] at e; subst e
  exact .inr h1
end
end Go.Proofs.R
