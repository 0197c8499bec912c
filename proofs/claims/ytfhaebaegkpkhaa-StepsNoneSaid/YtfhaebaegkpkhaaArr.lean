/- An array of things of one cell, by value, opened. -/
import Derived.Lib.SmallJoins
import Derived.ChangeSlices
set_option linter.unusedVariables false
set_option linter.unusedSimpArgs false
namespace Go.Proofs.Ytfhaebaegkpkhaa.Arr
open Go.Joins Go.ChangeShapes Go.WideShapes Go.RowKit Go.Deep

section
variable {H : Type} {enc : TypeId × Value → H} {P : Program} {w : World} {base : Nat} {spare : Nat → Bool} {held : Bool}
theorem okWide_arr {r : Reach} {b0 : Nat} {t e : TypeId} {n : Nat} {v : Value} (hs : P.underlying t = some (.array n e)) (hv : Value.okWide P w r b0 t v) : ∃ cs : Array Value, v = .agg cs ∧ cs.size = P.cellsOf t := by
  simp only [Value.okWide, hs] at hv
  obtain ⟨cs, h1, h2, _⟩ := hv
  exact ⟨cs, h1, h2⟩
theorem mapM_get {α β : Type} {f : α → Option β} : ∀ {l : List α} {ys : List β}, l.mapM f = some ys → ∀ (i : Nat) (x : α), l[i]? = some x → ∃ y, f x = some y := by
  intro l
  induction l with
  | nil => intro ys _ i x h; simp at h
  | cons a l ih =>
    intro ys h i x hx
    rw [List.mapM_cons] at h
    simp only [bind, Option.bind_eq_some_iff, pure, Option.some.injEq] at h
    obtain ⟨y, h0, zs, h1, rfl⟩ := h
    cases i with
    | zero => simp at hx; subst hx; exact ⟨y, h0⟩
    | succ i => exact ih h1 i x (by simpa using hx)
theorem open_arr {r : Reach} {b0 : Nat} {t e : TypeId} {n : Nat} {v : Value} {d : DataW H} {p : List MemPlace} (hs : P.underlying t = some (.array n e)) (hone : P.cellsOf e = 1) (hC : P.cellsOf t = n)
    (hv : Value.okWide P w r b0 t v) (h : DataW.Trod enc P w base spare held t v d p) :
    ∃ (xs : List Value) (fuel : Nat), v = .agg ⟨xs⟩ ∧ xs.length = n ∧ ∀ (i : Nat) (x : Value), xs[i]? = some x → ∃ y, DataW.trod enc P w base spare held fuel e [x] = some y := by
  obtain ⟨cs, rfl, hsz⟩ := okWide_arr hs hv
  obtain ⟨fuel, hf⟩ := h
  cases fuel with
  | zero => simp [DataW.trod] at hf
  | succ m =>
    obtain ⟨l⟩ := cs
    have hl : l.length = n := by rw [hC] at hsz; simpa using hsz
    rw [DataW.trod_step] at hf
    unfold DataW.trodStep at hf
    simp only [hs, Value.cells] at hf
    rw [if_pos (by simpa using hsz)] at hf
    simp only [Option.map_eq_some_iff] at hf
    obtain ⟨ys, hy, -⟩ := hf
    refine ⟨l, m, rfl, hl, fun i x hx => ?_⟩
    have hi : i < n := by rw [← hl]; exact (List.getElem?_eq_some_iff.1 hx).1
    obtain ⟨y, e1⟩ := mapM_get hy i i (by simp [hi])
    refine ⟨y, ?_⟩
    simp only [hone, Nat.mul_one] at e1
    rw [show (l.drop i).take 1 = [x] from by
      rw [List.drop_eq_getElem_cons (by omega : i < l.length), (List.getElem?_eq_some_iff.1 hx).2]; rfl] at e1
    exact e1
theorem open_arr2 {r : Reach} {b0 : Nat} {t e : TypeId} {v : Value} {d : DataW H} {p : List MemPlace} (hs : P.underlying t = some (.array 2 e)) (hone : P.cellsOf e = 1) (hC : P.cellsOf t = 2)
    (hv : Value.okWide P w r b0 t v) (h : DataW.Trod enc P w base spare held t v d p) :
    ∃ (v0 v1 : Value) (fuel : Nat) (y0 y1 : DataW H × List MemPlace), v = .agg #[v0, v1] ∧ DataW.trod enc P w base spare held fuel e [v0] = some y0 ∧ DataW.trod enc P w base spare held fuel e [v1] = some y1 := by
  obtain ⟨xs, fuel, rfl, hl, hx⟩ := open_arr hs hone hC hv h
  match xs, hl with
  | [v0, v1], _ =>
    obtain ⟨y0, h0⟩ := hx 0 v0 rfl
    obtain ⟨y1, h1⟩ := hx 1 v1 rfl
    exact ⟨v0, v1, fuel, y0, y1, rfl, h0, h1⟩
theorem open_ints2 {r : Reach} {b0 : Nat} {t e : TypeId} {k : IntKind} {v : Value} {d : DataW H} {p : List MemPlace} (hs : P.underlying t = some (.array 2 e)) (he : P.underlying e = some (.int k)) (hone : P.cellsOf e = 1) (hC : P.cellsOf t = 2)
    (hv : Value.okWide P w r b0 t v) (h : DataW.Trod enc P w base spare held t v d p) : ∃ a b : Int, v = .agg #[.int k a, .int k b] ∧ (Lit.int k a).wf = true ∧ (Lit.int k b).wf = true := by
  obtain ⟨v0, v1, fuel, y0, y1, rfl, h0, h1⟩ := open_arr2 hs hone hC hv h
  obtain ⟨a, ea, _, wa⟩ := DataW.trod_int he h0
  obtain ⟨b, eb, _, wb⟩ := DataW.trod_int he h1
  simp at ea eb
  subst ea; subst eb
  exact ⟨a, b, rfl, wa, wb⟩
theorem open_ints3 {r : Reach} {b0 : Nat} {t e : TypeId} {k : IntKind} {v : Value} {d : DataW H} {p : List MemPlace} (hs : P.underlying t = some (.array 3 e)) (he : P.underlying e = some (.int k)) (hone : P.cellsOf e = 1) (hC : P.cellsOf t = 3)
    (hv : Value.okWide P w r b0 t v) (h : DataW.Trod enc P w base spare held t v d p) : ∃ a b c : Int, v = .agg #[.int k a, .int k b, .int k c] := by
  obtain ⟨xs, fuel, rfl, hl, hx⟩ := open_arr hs hone hC hv h
  match xs, hl with
  | [v0, v1, v2], _ =>
    obtain ⟨y0, h0⟩ := hx 0 v0 rfl
    obtain ⟨y1, h1⟩ := hx 1 v1 rfl
    obtain ⟨y2, h2⟩ := hx 2 v2 rfl
    obtain ⟨a, ea, _, -⟩ := DataW.trod_int he h0
    obtain ⟨b, eb, _, -⟩ := DataW.trod_int he h1
    obtain ⟨c, ec, _, -⟩ := DataW.trod_int he h2
    simp at ea eb ec
    subst ea; subst eb; subst ec
    exact ⟨a, b, c, rfl⟩
end
end Go.Proofs.Ytfhaebaegkpkhaa.Arr
