/- A slice of things of any size, opened to its cells. -/
import Derived.Lib.SmallJoins
import Derived.ChangeSlices
import Derived.Deep.Strs
set_option linter.unusedVariables false
set_option linter.unusedSimpArgs false
namespace Go.Proofs.Ytfhaebaegkpkhaa.Sl
open Go.Joins Go.ChangeShapes Go.WideShapes Go.RowKit Go.Deep

section
variable {H : Type} {enc : TypeId × Value → H} {P : Program} {w : World} {base : Nat} {spare : Nat → Bool} {held : Bool}
theorem mapM_all {α β : Type} {f : α → Option β} : ∀ {l : List α} {ys : List β}, l.mapM f = some ys → ys.length = l.length ∧ ∀ (i : Nat) (x : α), l[i]? = some x → ∃ y, f x = some y ∧ ys[i]? = some y := by
  intro l
  induction l with
  | nil => intro ys h; rw [List.mapM_nil] at h; injection h with h; subst h; exact ⟨rfl, fun i x hx => by simp at hx⟩
  | cons a l ih =>
    intro ys h
    rw [List.mapM_cons] at h
    simp only [bind, Option.bind_eq_some_iff, pure, Option.some.injEq] at h
    obtain ⟨y, h0, zs, h1, rfl⟩ := h
    obtain ⟨i1, i2⟩ := ih h1
    refine ⟨by simp [i1], fun i x hx => ?_⟩
    cases i with
    | zero => simp at hx; subst hx; exact ⟨y, h0, rfl⟩
    | succ i =>
      obtain ⟨y', h2, h3⟩ := i2 i x (by simpa using hx)
      exact ⟨y', h2, by simpa using h3⟩
theorem cells_get {a : Addr} {n : Nat} {cs : List Value} (h : w.cells? base a n = some cs) : cs.length = n ∧ ∀ (i : Nat) (c : Value), cs[i]? = some c → w.cell? (a.add i) = some c := by
  unfold World.cells? at h
  split at h
  · obtain ⟨h1, h2⟩ := mapM_all h
    rw [List.length_range] at h1
    refine ⟨h1, fun i c hc => ?_⟩
    have hi : i < n := by rw [← h1]; exact (List.getElem?_eq_some_iff.1 hc).1
    obtain ⟨y, h3, h4⟩ := h2 i i (by simp [hi])
    rw [hc] at h4
    injection h4 with h4
    rw [h3, h4]
  · cases h
theorem open_slice {t e : TypeId} {fuel : Nat} {v : Value} {x : DataW H × List MemPlace} (ht : P.underlying t = some (.slice e)) (h : DataW.trod enc P w base spare held fuel t [v] = some x) :
    v = .slice none 0 0 ∨ ∃ (a : Addr) (len cap n : Nat), v = .slice (some a) len cap ∧ len ≤ cap ∧ cap ≤ maxLen ∧ ∀ i, i < len → ∃ cs y, w.cells? base (a.add (i * P.cellsOf e)) (P.cellsOf e) = some cs ∧ DataW.trod enc P w base spare held n e cs = some y := by
  rcases DataW.trod_slice ht h with ⟨h0, -⟩ | ⟨a, len, cap, elems, rest, n, _, h0, -, hb, hl, hm, hlen, hel, hsp, hns⟩
  · simp at h0; exact .inl h0
  · simp at h0
    refine .inr ⟨a, len, cap, n, h0, hl, hm, fun i hi => ?_⟩
    have h1 := hel i hi
    rw [List.getElem?_eq_getElem (by omega)] at h1
    obtain ⟨cs, h2, h3⟩ := Option.bind_eq_some_iff.1 h1
    exact ⟨cs, _, h2, h3⟩
theorem one_int {t : TypeId} {k : IntKind} {fuel : Nat} {cs : List Value} {x : DataW H × List MemPlace} (he : P.underlying t = some (.int k)) (h : DataW.trod enc P w base spare held fuel t cs = some x) : ∃ a, cs = [.int k a] ∧ (Lit.int k a).wf = true := by
  obtain ⟨a, ea, -, wa⟩ := DataW.trod_int he h
  exact ⟨a, ea, wa⟩
theorem three_ints {t : TypeId} {f0 f1 f2 : Field} {k : IntKind} {fuel : Nat} {cs : List Value} {x : DataW H × List MemPlace} (ht : P.underlying t = some (.struct #[f0, f1, f2])) (hone : oneCellFields P #[f0, f1, f2] = true) (hC : P.cellsOf t = 3)
    (e0 : P.underlying f0.type = some (.int k)) (e1 : P.underlying f1.type = some (.int k)) (e2 : P.underlying f2.type = some (.int k))
    (h : DataW.trod enc P w base spare held fuel t cs = some x) : ∃ a b c, cs = [.int k a, .int k b, .int k c] ∧ (Lit.int k a).wf = true ∧ (Lit.int k b).wf = true ∧ (Lit.int k c).wf = true := by
  obtain ⟨y0, y1, y2, n, -, hl, h0, h1, h2⟩ := trod_struct3 ht h
  obtain ⟨o0, k0⟩ := hone_of hone 0 f0 rfl
  obtain ⟨o1, k1⟩ := hone_of hone 1 f1 rfl
  obtain ⟨o2, k2⟩ := hone_of hone 2 f2 rfl
  rw [hC] at hl
  match cs, hl with
  | [c0, c1, c2], _ =>
    simp [o0, k0] at h0
    simp [o1, k1] at h1
    simp [o2, k2] at h2
    obtain ⟨a, ea, wa⟩ := one_int e0 h0
    obtain ⟨b, eb, wb⟩ := one_int e1 h1
    obtain ⟨c, ec, wc⟩ := one_int e2 h2
    simp at ea eb ec
    subst ea eb ec
    exact ⟨a, b, c, rfl, wa, wb, wc⟩
end
end Go.Proofs.Ytfhaebaegkpkhaa.Sl
