/- Two lists of ints compared (cupellaw11.Ints). -/
import Derived.Test.YtfhaebaegkpkhaaByt
import Derived.Test.YtfhaebaegkpkhaaModAt
import Derived.Test.YtfhaebaegkpkhaaQTail
set_option linter.unusedVariables false
set_option linter.unusedSimpArgs false
namespace Go.Proofs.Ytfhaebaegkpkhaa.Fil
open Go.RowKit OwnS Byt Cfg QTail
attribute [local go_sem ↓] Kit.execOp_call_slot
attribute [local go_sem] Kit.callSlot_func
set_option maxRecDepth 100000 in
set_option maxHeartbeats 2000000 in
theorem ints_any (W : World) (v1 v2 : Value) (xs ys : List Int) (h1 : Ints W v1 xs) (h2 : Ints W v2 ys) (hn : xs.length ≤ 1000000) : Calls Try.prog 23 #[v1, v2] W fun e w' => e = .returned (.bool (decide (xs = ys))) ∧ Below W.heap.size W w' := by
  obtain ⟨A1, p1, rfl, -, -⟩ := Sees.form h1
  obtain ⟨A2, p2, rfl, -, -⟩ := Sees.form h2
  have H := Lib.hid (And.intro h1 h2)
  clear h1 h2
  obtain ⟨n, hnn⟩ : ∃ n, n = xs.length := ⟨_, rfl⟩
  obtain ⟨m, hm⟩ : ∃ m, m = ys.length := ⟨_, rfl⟩
  rw [← hnn] at hn
  rw [← hnn, ← hm]
  have HN0 := Lib.hid (And.intro hnn hm)
  clear hnn hm
  by_cases hl : n = m
  · subst hl
    go_enter Try.func23, Try.ntmps23
    go_wp2_with fail
    go_loopw [5] (fun i wr => ∃ k : Nat, k ≤ n ∧ i = .int .i64 k ∧ Hid ((∀ j, j < k → xs[j]? = ys[j]?) ∧ Below W.heap.size W wr)) (fun i _ => n - (intOf i).toNat)
    case atStart => exact ⟨0, Nat.zero_le _, rfl, Lib.hid ⟨by intro j hj; omega, Below.refl _ _⟩⟩
    case round =>
      obtain ⟨k, hk, rfl, hsame⟩ := hrel
      by_cases hlt : k < n
      · have hlx : k < xs.length := by have := HN0.out.1; omega
        have hly : k < ys.length := by have := HN0.out.2; omega
        obtain ⟨g1, o1, rfl⟩ := some_addr H.out.1 (by omega)
        obtain ⟨g2, o2, rfl⟩ := some_addr H.out.2 (by omega)
        obtain ⟨x, hx⟩ : ∃ x, xs[k]? = some x := ⟨_, List.getElem?_eq_getElem hlx⟩
        obtain ⟨y, hy⟩ : ∃ y, ys[k]? = some y := ⟨_, List.getElem?_eq_getElem hly⟩
        have x0 := Sees.int (H.out.1.new hsame.out.2) hx
        have y0 := Sees.int (H.out.2.new hsame.out.2) hy
        have i1 : (k : Int) < (n : Int) := by omega
        have i3 : (0 : Int) ≤ (k : Int) := by omega
        have HXY := Lib.hid (And.intro hx hy)
        clear hx hy hlx hly
        by_cases hxy : x = y
        · subst hxy
          go_wp2_with fail
          go_quiet (fail)
          go_wp2_with fail
          go_roundw
          case rel =>
            refine ⟨k + 1, by omega, by go_num, fun j hj => ?_, below_drewN' hsame.out.2 _⟩
            by_cases hjk : j = k
            · subst hjk
              rw [HXY.out.1, HXY.out.2]
            · exact hsame.out.1 j (by omega)
          case measure => simp [intOf]; omega
        · have HNE : Hid (xs ≠ ys) := by
            show xs ≠ ys
            rintro rfl
            have h9 := HXY.out.1.symm.trans HXY.out.2
            injection h9 with h9
            exact hxy h9
          have hxy0 : (x == y) = false := by simpa using hxy
          go_wp2_with fail
          go_quiet (fail)
          go_wp2_with fail
          try (rw [Exit.noGoto_ret])
          go_ret
          exact ⟨by rw [decide_eq_false HNE.out]; rfl, below_drewN' hsame.out.2 _⟩
      · obtain rfl : k = n := by omega
        have HEQ : Hid (xs = ys) := by
          show xs = ys
          refine List.ext_getElem? fun j => ?_
          have h5 := HN0.out
          rcases Nat.lt_or_ge j xs.length with h | h
          · exact hsame.out.1 j (by omega)
          · rw [List.getElem?_eq_none h, List.getElem?_eq_none (by omega)]
        go_wp2_with fail
        try (rw [Exit.noGoto_ret])
        go_ret
        exact ⟨by rw [decide_eq_true HEQ.out]; rfl, hsame.out.2⟩
  · have hl0 : ((n : Int) == (m : Int)) = false := by simp; omega
    have HNE : Hid (xs ≠ ys) := by
      show xs ≠ ys
      rintro rfl
      have h5 := HN0.out
      omega
    go_enter Try.func23, Try.ntmps23
    go_wp2_with fail
    go_ret
    exact ⟨by rw [decide_eq_false HNE.out]; rfl, Below.refl _ _⟩
end Go.Proofs.Ytfhaebaegkpkhaa.Fil
