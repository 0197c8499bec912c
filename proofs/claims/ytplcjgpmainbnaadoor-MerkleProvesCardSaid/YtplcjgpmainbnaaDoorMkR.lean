/- Rows of bytes, out of an argument's reading. -/
import Derived.Test.YtplcjgpmainbnaaDoorMkA
import Derived.Test.YtplcjgpmainbnaaDoorSlice
set_option linter.unusedVariables false
set_option linter.unusedSimpArgs false
namespace Go.Proofs.YtplcjgpmainbnaaDoor.MkW
open Go Go.RowKit OwnS ShaW
section
variable {H : Type} {enc : TypeId × Value → H} {w : World} {base : Nat} {spare : Nat → Bool} {held : Bool}
/-- One cell, read. -/
theorem cells_one {a : Addr} {i : Nat} {cs : List Value} (h : w.cells? base (a.add (i * 1)) 1 = some cs) : ∃ u, cs = [u] ∧ w.cell? (a.add i) = some u := by
  unfold World.cells? at h
  split at h
  · rw [show List.range 1 = [0] from rfl] at h
    simp only [List.mapM_cons, List.mapM_nil, Option.bind_eq_bind, Option.bind_eq_some_iff, Option.pure_def, Option.some.injEq] at h
    obtain ⟨u, hu, _, rfl, rfl⟩ := h
    rw [Nat.mul_one, show (a.add i).add 0 = a.add i from if_pos rfl] at hu
    exact ⟨u, rfl, hu⟩
  · cases h
theorem spot_zero {a : Addr} {u : Value} (h : w.cell? (a.add 0) = some u) : a.spot = none := by
  have := World.cell?_spot h
  rwa [show a.add 0 = a from if_pos rfl] at this
/-- A list of so many, each as it must be. -/
theorem list_of {α : Type} {p : Nat → α → Prop} : ∀ (n : Nat), (∀ i, i < n → ∃ x, p i x) → ∃ l : List α, l.length = n ∧ ∀ i x, l[i]? = some x → p i x
  | 0, _ => ⟨[], rfl, by simp⟩
  | n + 1, h => by
    obtain ⟨l, hl, hp⟩ := list_of n fun i hi => h i (by omega)
    obtain ⟨x, hx⟩ := h n (by omega)
    refine ⟨l ++ [x], by simp [hl], fun i y hy => ?_⟩
    by_cases hi : i < l.length
    · rw [List.getElem?_append_left hi] at hy
      exact hp i y hy
    · rw [List.getElem?_append_right (by omega)] at hy
      have h1 : i - l.length < 1 := by simpa using (List.getElem?_eq_some_iff.1 hy).1
      obtain rfl : i = n := by omega
      rw [hl, Nat.sub_self] at hy
      injection hy with hy
      subst hy
      exact hx
/-- A slice of bytes, read: its bytes. -/
theorem open_bytes {fuel : Nat} {v : Value} {x : DataW H × List MemPlace} (h : DataW.trod enc Tryd.prog w base spare held fuel 28 [v] = some x) :
    ∃ l : List Nat, Sees w 1 v l.length (bytesV l) ∧ ∀ y ∈ l, y < 256 := by
  rcases Sl.open_slice Tryd.underlying28 h with rfl | ⟨a, len, cap, n, rfl, h1, h2, h3⟩
  · exact ⟨[], Sees.nil _ _, by simp⟩
  · have hc : Tryd.prog.cellsOf 5 = 1 := by kernel_rfl
    rw [hc] at h3
    have h4 : ∀ i, i < len → ∃ y : Nat, y < 256 ∧ w.cell? (a.add i) = some (.int .u8 (y : Int)) := fun i hi => by
      obtain ⟨cs, y, e1, e2⟩ := h3 i hi
      obtain ⟨u, rfl, hu⟩ := cells_one e1
      obtain ⟨z, ez, wz⟩ := Sl.one_int Tryd.underlying5 e2
      injection ez with ez _
      subst ez
      have h0 : IntKind.u8.min = 0 := rfl
      have h1 : IntKind.u8.max = 255 := rfl
      simp [Lit.wf, h0, h1] at wz
      refine ⟨z.toNat, by omega, ?_⟩
      rw [hu, Int.toNat_of_nonneg wz.1]
    obtain ⟨l, hl, hp⟩ := list_of len h4
    refine ⟨l, ?_, fun y hy => by obtain ⟨i, hi⟩ := List.mem_iff_getElem?.1 hy; exact (hp i y hi).1⟩
    rw [hl]
    refine ⟨by rw [bytesV_length, hl, Nat.mul_one], ?_⟩
    by_cases h0 : len = 0
    · subst h0; exact .inl ⟨rfl, _, _, rfl, h2⟩
    · obtain ⟨y, -, h5⟩ := h4 0 (by omega)
      have hs := spot_zero h5
      obtain ⟨b, off, spot⟩ := a
      simp only at hs
      subst hs
      refine .inr ⟨b, off, cap, rfl, h1, h2, fun j u hj => ?_⟩
      unfold bytesV at hj
      rw [List.getElem?_map, Option.map_eq_some_iff] at hj
      obtain ⟨y, hy, rfl⟩ := hj
      rw [← add_lit]
      exact (hp j y hy).2
/-- Rows of bytes, read. -/
theorem open_rows {fuel : Nat} {v : Value} {x : DataW H × List MemPlace} (h : DataW.trod enc Tryd.prog w base spare held fuel 22 [v] = some x) :
    ∃ (hs : List Value) (ls : List (List Nat)), RowsAt w v hs ls := by
  rcases Sl.open_slice Tryd.underlying22 h with rfl | ⟨a, len, cap, n, rfl, h1, h2, h3⟩
  · exact ⟨[], [], Sees.nil _ _, by simp, by simp⟩
  · have hc : Tryd.prog.cellsOf 28 = 1 := by kernel_rfl
    rw [hc] at h3
    have h4 : ∀ i, i < len → ∃ y : Value × List Nat, w.cell? (a.add i) = some y.1 ∧ Sees w 1 y.1 y.2.length (bytesV y.2) ∧ ∀ z ∈ y.2, z < 256 := fun i hi => by
      obtain ⟨cs, y, e1, e2⟩ := h3 i hi
      obtain ⟨u, rfl, hu⟩ := cells_one e1
      obtain ⟨l, hl, hb⟩ := open_bytes e2
      exact ⟨(u, l), hu, hl, hb⟩
    obtain ⟨l, hl, hp⟩ := list_of len h4
    refine ⟨l.map (·.1), l.map (·.2), ?_, fun i r hr => ?_, fun r hr => ?_⟩
    · rw [List.length_map, hl]
      refine ⟨by rw [List.length_map, hl, Nat.mul_one], ?_⟩
      by_cases h0 : len = 0
      · subst h0; exact .inl ⟨rfl, _, _, rfl, h2⟩
      · obtain ⟨y, h5, -⟩ := h4 0 (by omega)
        have hs := spot_zero h5
        obtain ⟨b, off, spot⟩ := a
        simp only at hs
        subst hs
        refine .inr ⟨b, off, cap, rfl, h1, h2, fun j u hj => ?_⟩
        rw [List.getElem?_map, Option.map_eq_some_iff] at hj
        obtain ⟨y, hy, rfl⟩ := hj
        rw [← add_lit]
        exact (hp j y hy).1
    · rw [List.getElem?_map, Option.map_eq_some_iff] at hr
      obtain ⟨y, hy, rfl⟩ := hr
      exact ⟨y.1, by rw [List.getElem?_map, hy]; rfl, (hp i y hy).2.1⟩
    · obtain ⟨y, hy, rfl⟩ := List.mem_map.1 hr
      obtain ⟨i, hi⟩ := List.mem_iff_getElem?.1 hy
      exact (hp i y hi).2.2
end
end Go.Proofs.YtplcjgpmainbnaaDoor.MkW
