/- Digests, and lists of them, out of an argument's reading. -/
import Derived.Test.YtplcjgpmainbnaaDoorMkR
import Derived.Test.YtplcjgpmainbnaaDoorMkG
import Derived.Test.YtplcjgpmainbnaaDoorArr
import Derived.OpenShut
set_option linter.unusedVariables false
set_option linter.unusedSimpArgs false
namespace Go.Proofs.YtplcjgpmainbnaaDoor.MkW
open Go Go.RowKit OwnS ShaW
section
variable {H : Type} {enc : TypeId × Value → H} {w : World} {base : Nat} {spare : Nat → Bool} {held : Bool}
/-- A byte's reading. -/
theorem byte_of {fuel : Nat} {cs : List Value} {y : DataW H × List MemPlace} (h : DataW.trod enc Tryd.prog w base spare held fuel 5 cs = some y) : ∃ x : Nat, x < 256 ∧ cs = [.int .u8 (x : Int)] := by
  obtain ⟨z, ez, wz⟩ := Sl.one_int Tryd.underlying5 h
  have h0 : IntKind.u8.min = 0 := rfl
  have h1 : IntKind.u8.max = 255 := rfl
  simp [Lit.wf, h0, h1] at wz
  exact ⟨z.toNat, by omega, by rw [ez, Int.toNat_of_nonneg wz.1]⟩
/-- A digest's reading. -/
theorem dig_of {fuel : Nat} {cs : List Value} {y : DataW H × List MemPlace} (h : DataW.trod enc Tryd.prog w base spare held fuel 24 cs = some y) : ∃ D : List Nat, Dig D ∧ cs = bytesV D := by
  obtain ⟨xs, m, -, -, hl, hx, hg⟩ := DataW.trod_array Tryd.underlying24 h
  have hc : Tryd.prog.cellsOf 24 = 32 := by kernel_rfl
  have hb : Tryd.prog.cellsOf 5 = 1 := by kernel_rfl
  rw [hc] at hl
  have h1 : ∀ i, i < 32 → ∃ x : Nat, x < 256 ∧ cs[i]? = some (.int .u8 (x : Int)) := fun i hi => by
    have h2 := hg i hi
    rw [List.getElem?_eq_getElem (by omega), hb, Nat.mul_one] at h2
    obtain ⟨x, hx1, hx2⟩ := byte_of h2
    refine ⟨x, hx1, ?_⟩
    have h3 : ((cs.drop i).take 1)[0]? = some (.int .u8 (x : Int)) := by rw [hx2]; rfl
    rw [List.getElem?_take, if_pos (by omega), List.getElem?_drop] at h3
    exact h3
  obtain ⟨D, hD, hp⟩ := list_of 32 h1
  refine ⟨D, ⟨hD, fun x hx => by obtain ⟨i, hi⟩ := List.mem_iff_getElem?.1 hx; exact (hp i x hi).1⟩, ?_⟩
  refine List.ext_getElem? fun i => ?_
  by_cases hi : i < 32
  · obtain ⟨h4, h5⟩ := hp i _ (List.getElem?_eq_getElem (by omega : i < D.length))
    rw [h5]
    unfold bytesV
    rw [List.getElem?_map, List.getElem?_eq_getElem (by omega)]
    rfl
  · rw [List.getElem?_eq_none (by omega), List.getElem?_eq_none (by rw [bytesV_length]; omega)]
/-- An argument that is a digest. -/
theorem open_dig {r : Reach} {b0 : Nat} {v : Value} {d : DataW H} {p : List MemPlace} (hv : Value.okWide Tryd.prog w r b0 24 v) (h : DataW.Trod enc Tryd.prog w base spare held 24 v d p) : ∃ D : List Nat, Dig D ∧ v = digV D := by
  obtain ⟨cs, rfl, -⟩ := Arr.okWide_arr Tryd.underlying24 hv
  obtain ⟨m, hm⟩ := h
  obtain ⟨D, hD, e⟩ := dig_of hm
  refine ⟨D, hD, ?_⟩
  unfold digV
  rw [← e]
  simp [Value.cells]
/-- A slice of digests, read. -/
theorem open_digs {fuel : Nat} {v : Value} {x : DataW H × List MemPlace} (h : DataW.trod enc Tryd.prog w base spare held fuel 33 [v] = some x) : ∃ ds : List (List Nat), DigsAt w v ds := by
  rcases Sl.open_slice Tryd.underlying33 h with rfl | ⟨a, len, cap, n, rfl, h1, h2, h3⟩
  · exact ⟨[], Sees.nil _ _, by simp⟩
  · have hc : Tryd.prog.cellsOf 24 = 32 := by kernel_rfl
    rw [hc] at h3
    have h4 : ∀ i, i < len → ∃ D : List Nat, Dig D ∧ ∀ (j : Nat) (c : Value), (bytesV D)[j]? = some c → w.cell? ((a.add (i * 32)).add j) = some c := fun i hi => by
      obtain ⟨cs, y, e1, e2⟩ := h3 i hi
      obtain ⟨D, hD, rfl⟩ := dig_of e2
      exact ⟨D, hD, (Sl.cells_get e1).2⟩
    obtain ⟨ds, hds, hp⟩ := list_of len h4
    have hdig : ∀ d ∈ ds, Dig d := fun d hd => by obtain ⟨i, hi⟩ := List.mem_iff_getElem?.1 hd; exact (hp i d hi).1
    refine ⟨ds, ?_, hdig⟩
    refine ⟨by rw [bytesV_length, flat32 hdig, hds, Nat.mul_comm], ?_⟩
    rw [hds]
    by_cases h0 : len = 0
    · subst h0; exact .inl ⟨rfl, _, _, rfl, h2⟩
    · obtain ⟨D, hD, h5⟩ := h4 0 (by omega)
      have h6 := h5 0 (.int .u8 ((D[0]'(by rw [hD.1]; omega) : Nat) : Int)) (by unfold bytesV; rw [List.getElem?_map, List.getElem?_eq_getElem (by rw [hD.1]; omega)]; rfl)
      have hs : a.spot = none := by
        have := World.cell?_spot h6
        rwa [show (a.add (0 * 32)).add 0 = a from by rw [Nat.zero_mul, show a.add 0 = a from if_pos rfl]; exact if_pos rfl] at this
      obtain ⟨b, off, spot⟩ := a
      simp only at hs
      subst hs
      refine .inr ⟨b, off, cap, rfl, h1, h2, ?_⟩
      rw [bytes_flat]
      refine RevL.rangeAt_flat (enc := bytesV) (s := 32) (fun d hd => by rw [bytesV_length, (hdig d hd).1]) fun k d hk j u hj => ?_
      have h7 := (hp k d hk).2 j u hj
      rwa [add_lit, add_lit] at h7
end
end Go.Proofs.YtplcjgpmainbnaaDoor.MkW
