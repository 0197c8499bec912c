/- cupellaw11.Spec, read: six numbers and a list. · model.Ask, read: a prompt, a seed, K, a limit, tokens that stop. -/
import Derived.Test.YtfhaebaegkpkhaaModAt
import Derived.Test.YtfhaebaegkpkhaaSlice
set_option linter.unusedVariables false
set_option linter.unusedSimpArgs false
namespace Go.Proofs.Ytfhaebaegkpkhaa.SpcB
open Go Go.RowKit Go.ChangeShapes Go.WideShapes OwnS Byt Cfg
section
variable {H : Type} {enc : TypeId × Value → H} {w : World} {base : Nat} {spare : Nat → Bool} {held : Bool}
theorem cells_one {a : Addr} {i : Nat} {cs : List Value} (h : w.cells? base (a.add (i * 1)) 1 = some cs) : ∃ u, cs = [u] ∧ w.cell? (a.add i) = some u := by
  unfold World.cells? at h
  split at h
  · rw [show List.range 1 = [0] from rfl] at h
    simp only [List.mapM_cons, List.mapM_nil, Option.bind_eq_bind, Option.bind_eq_some_iff, Option.pure_def, Option.some.injEq] at h
    obtain ⟨u, hu, _, rfl, rfl⟩ := h
    rw [Nat.mul_one, show (a.add i).add 0 = a.add i from if_pos rfl] at hu
    exact ⟨u, rfl, hu⟩
  · cases h
theorem spot_zero {a : Addr} {u : Value} (h : w.cell? (a.add 0) = some u) : a.spot = none := by
  have := World.cell?_spot h
  rwa [show a.add 0 = a from if_pos rfl] at this
theorem list_of {α : Type} {p : Nat → α → Prop} : ∀ (n : Nat), (∀ i, i < n → ∃ x, p i x) → ∃ l : List α, l.length = n ∧ ∀ i x, l[i]? = some x → p i x
  | 0, _ => ⟨[], rfl, by simp⟩
  | n + 1, h => by
    obtain ⟨l, hl, hp⟩ := list_of n fun i hi => h i (by omega)
    obtain ⟨x, hx⟩ := h n (by omega)
    refine ⟨l ++ [x], by simp [hl], fun i y hy => ?_⟩
    by_cases hi : i < l.length
    · rw [List.getElem?_append_left hi] at hy
      exact hp i y hy
    · rw [List.getElem?_append_right (by omega)] at hy
      have h1 : i - l.length < 1 := by simpa using (List.getElem?_eq_some_iff.1 hy).1
      obtain rfl : i = n := by omega
      rw [hl, Nat.sub_self] at hy
      injection hy with hy
      subst hy
      exact hx
/-- A slice of ints, read: its numbers. -/
theorem open_ints {fuel : Nat} {v : Value} {x : DataW H × List MemPlace} (h : DataW.trod enc Try.prog w base spare held fuel 26 [v] = some x) :
    ∃ (A : Option Addr) (c : Nat) (l : List Int), v = .slice A l.length c ∧ Ints w v l := by
  rcases Sl.open_slice Try.underlying26 h with rfl | ⟨a, len, cap, n, rfl, h1, h2, h3⟩
  · exact ⟨none, 0, [], rfl, Sees.nil _ _⟩
  · have hc : Try.prog.cellsOf 3 = 1 := by kernel_rfl
    rw [hc] at h3
    have h4 : ∀ i, i < len → ∃ y : Int, w.cell? (a.add i) = some (.int .i64 y) := fun i hi => by
      obtain ⟨cs, y, e1, e2⟩ := h3 i hi
      obtain ⟨u, rfl, hu⟩ := cells_one e1
      obtain ⟨z, ez, wz⟩ := Sl.one_int Try.underlying3 e2
      injection ez with ez _
      subst ez
      exact ⟨z, hu⟩
    obtain ⟨l, hl, hp⟩ := list_of len h4
    refine ⟨some a, cap, l, by rw [hl], ?_⟩
    unfold Ints
    rw [hl]
    refine ⟨by rw [intsV_length, hl, Nat.mul_one], ?_⟩
    by_cases h0 : len = 0
    · subst h0; exact .inl ⟨rfl, _, _, rfl, h2⟩
    · obtain ⟨y, h5⟩ := h4 0 (by omega)
      have hs := spot_zero h5
      obtain ⟨b, off, spot⟩ := a
      simp only at hs
      subst hs
      refine .inr ⟨b, off, cap, rfl, h1, h2, fun j u hj => ?_⟩
      unfold intsV at hj
      rw [List.getElem?_map, Option.map_eq_some_iff] at hj
      obtain ⟨y, hy, rfl⟩ := hj
      rw [← add_lit]
      exact hp j y hy
set_option maxRecDepth 100000 in
theorem open_spec {r : Reach} {b0 : Nat} {v : Value} {d : DataW H} {p : List MemPlace} (hv : Value.okWide Try.prog w r b0 49 v) (h : DataW.Trod enc Try.prog w base spare held 49 v d p) :
    ∃ (s0 s1 s2 s3 s4 s5 : Int) (A : Option Addr) (c : Nat) (l : List Int), v = .agg #[.int .i64 s0, .int .i64 s1, .int .i64 s2, .int .i64 s3, .int .i64 s4, .int .i64 s5, .slice A l.length c] ∧ Ints w (.slice A l.length c) l := by
  have hs := Try.underlying49
  have hC : Try.prog.cellsOf 49 = 7 := by kernel_rfl
  have hC6 : Try.prog.cellsOf 47 = 6 := by kernel_rfl
  have hC1 : Try.prog.cellsOf 3 = 1 := by kernel_rfl
  have hCs : Try.prog.cellsOf 26 = 1 := by kernel_rfl
  obtain ⟨cs, rfl, hsz⟩ := okWide_struct hs hv
  obtain ⟨cl⟩ := cs
  match cl, hsz.trans hC with
  | [c0, c1, c2, c3, c4, c5, c6], _ =>
    obtain ⟨fuel, hf⟩ := h
    obtain ⟨y0, y1, n, -, -, g0, g1⟩ := trod_struct2 hs hf
    simp only [Value.cells, hC6, hCs, List.drop_zero, List.take_succ_cons, List.take_zero, List.drop_succ_cons] at g0 g1
    obtain ⟨A, c, l, rfl, hl⟩ := open_ints g1
    obtain ⟨xs, m, -, -, -, hxl, ha⟩ := DataW.trod_array Try.underlying47 g0
    have key : ∀ (i : Nat) (u : Value), i < 6 → ([c0, c1, c2, c3, c4, c5].drop i).take 1 = [u] → ∃ z, u = .int .i64 z := fun i u hi hu => by
      have h1 := ha i hi
      rw [hC1, Nat.mul_one, hu, List.getElem?_eq_getElem (by omega)] at h1
      obtain ⟨z, ez, -⟩ := Sl.one_int Try.underlying3 h1
      injection ez with ez _
      exact ⟨z, ez⟩
    obtain ⟨s0, rfl⟩ := key 0 c0 (by omega) rfl
    obtain ⟨s1, rfl⟩ := key 1 c1 (by omega) rfl
    obtain ⟨s2, rfl⟩ := key 2 c2 (by omega) rfl
    obtain ⟨s3, rfl⟩ := key 3 c3 (by omega) rfl
    obtain ⟨s4, rfl⟩ := key 4 c4 (by omega) rfl
    obtain ⟨s5, rfl⟩ := key 5 c5 (by omega) rfl
    exact ⟨s0, s1, s2, s3, s4, s5, A, c, l, rfl, hl⟩
end
end Go.Proofs.Ytfhaebaegkpkhaa.SpcB

set_option linter.unusedVariables false
set_option linter.unusedSimpArgs false
namespace Go.Proofs.Ytfhaebaegkpkhaa.SpcB
open Go Go.RowKit Go.ChangeShapes Go.WideShapes OwnS Byt Cfg
section
variable {H : Type} {enc : TypeId × Value → H} {w : World} {base : Nat} {spare : Nat → Bool} {held : Bool}
theorem take_at {cl : List Value} {i : Nat} (h : i < cl.length) : (cl.drop i).take 1 = [cl[i]] := by
  rw [List.drop_eq_getElem_cons h]
  rfl
set_option maxRecDepth 100000 in
theorem open_ask {r : Reach} {b0 : Nat} {v : Value} {d : DataW H} {p : List MemPlace} (hv : Value.okWide Try.prog w r b0 80 v) (h : DataW.Trod enc Try.prog w base spare held 80 v d p) :
    ∃ (L : List Value) (A : Option Addr) (c : Nat) (l : List Int) (K limit : Int), v = .agg L.toArray ∧ L.length = 36 ∧ Ints w (.slice A l.length c) l ∧ L[0]? = some (.slice A l.length c) ∧ L[33]? = some (.int .i64 K) ∧ L[34]? = some (.int .i64 limit) := by
  have hs := Try.underlying80
  have hC : Try.prog.cellsOf 80 = 36 := by kernel_rfl
  have hC1 : Try.prog.cellsOf 3 = 1 := by kernel_rfl
  have hCs : Try.prog.cellsOf 26 = 1 := by kernel_rfl
  obtain ⟨cs, rfl, hsz⟩ := okWide_struct hs hv
  obtain ⟨cl⟩ := cs
  have hl36 : cl.length = 36 := by simpa using hsz.trans hC
  obtain ⟨fuel, hf⟩ := h
  obtain ⟨xs, n, _, -, -, hlen, hg⟩ := DataW.trod_struct hs hf
  have h5 : xs.length = 5 := by simpa using hlen
  have g0 := hg 0 _ rfl
  have g2 := hg 2 _ rfl
  have g3 := hg 3 _ rfl
  change DataW.trod enc Try.prog w base spare held n 26 ((cl.drop 0).take (Try.prog.cellsOf 26)) = xs[0]? at g0
  change DataW.trod enc Try.prog w base spare held n 3 ((cl.drop 33).take (Try.prog.cellsOf 3)) = xs[2]? at g2
  change DataW.trod enc Try.prog w base spare held n 3 ((cl.drop 34).take (Try.prog.cellsOf 3)) = xs[3]? at g3
  rw [hCs, take_at (by omega), List.getElem?_eq_getElem (by omega)] at g0
  rw [hC1, take_at (by omega), List.getElem?_eq_getElem (by omega)] at g2
  rw [hC1, take_at (by omega), List.getElem?_eq_getElem (by omega)] at g3
  obtain ⟨A, c, l, e0, hi⟩ := open_ints g0
  obtain ⟨K, eK, -⟩ := Sl.one_int Try.underlying3 g2
  obtain ⟨limit, eL, -⟩ := Sl.one_int Try.underlying3 g3
  injection eK with eK _
  injection eL with eL _
  refine ⟨cl, A, c, l, K, limit, rfl, hl36, by rw [← e0]; exact hi, ?_, ?_, ?_⟩
  · rw [List.getElem?_eq_getElem (by omega), e0]
  · rw [List.getElem?_eq_getElem (by omega), eK]
  · rw [List.getElem?_eq_getElem (by omega), eL]
end
end Go.Proofs.Ytfhaebaegkpkhaa.SpcB
