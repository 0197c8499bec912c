/- KvShares at every input. -/
import Derived.Test.YtackjeckafoojaaKvShG
import Derived.Test.YtackjeckafoojaaArr
namespace Go.Proofs.Ytackjeckafoojaa.KvI
open Go.RowKit Kv Go.ChangeShapes Go.WideShapes
theorem rdA_open {H : Type} {enc : TypeId × Value → H} {w : World} {base : Nat} {spare : Nat → Bool} {held : Bool} {fuel : Nat} {v : Value} {x : DataW H × List MemPlace} (h : DataW.trod enc Try.prog w base spare held fuel 42 [v] = some x) : ∃ l, RdA w v l := by
  rcases open_ints Try.underlying42 Try.underlying3 (by kernel_rfl) h with ⟨h1, -⟩ | ⟨a, len, cap, zs, h1, -, h3, -, h5, -, h7, -⟩
  · simp at h1
    subst h1
    exact ⟨[], ⟨⟨_, _, rfl⟩, fun j x hj => by simp at hj⟩⟩
  · simp at h1
    subst h1
    have hz : len ≤ zs.length := by rw [h5]; split <;> omega
    have hl : (zs.take len).length = len := by rw [List.length_take]; omega
    refine ⟨zs.take len, ⟨⟨some a, cap, by rw [hl]⟩, fun j x hj => ⟨a, cap, by rw [hl], ?_⟩⟩⟩
    have hjl := (List.getElem?_eq_some_iff.1 hj).1
    rw [hl] at hjl
    rw [List.getElem?_take, if_pos hjl] at hj
    rw [h7 j (by omega), List.getD_eq_getElem?_getD, hj]
    rfl
theorem shares_all (W : World) (a b c d : Int) (v0 v1 : Value) (l0 l1 : List Int) (h0 : RdA W v0 l0) (h1 : RdA W v1 l1) :
    Calls Try.prog 4 #[.agg #[.int .i64 a, .int .i64 b], .agg #[.int .i64 c, .int .i64 d], .agg #[v0, v1]] W fun e w' => e = .returned (.bool true) ∧ Below W.heap.size W w' := by
  obtain ⟨A0, c0, e0⟩ := h0.form
  obtain ⟨A1, c1, e1⟩ := h1.form
  by_cases hok : okTwo a b = true
  · by_cases hc0 : c < 0
    · rw [e0, e1]; exact shares_c0 W a b c d _ _ _ _ _ _ hok hc0
    · by_cases hc : 60 < c
      · rw [e0, e1]; exact shares_c60 W a b c d _ _ _ _ _ _ ⟨hok, by omega⟩ hc
      · by_cases hd0 : d < 0
        · rw [e0, e1]; exact shares_d0 W a b c d _ _ _ _ _ _ ⟨hok, by omega, by omega⟩ hd0
        · by_cases hd : c < d
          · rw [e0, e1]; exact shares_dc W a b c d _ _ _ _ _ _ ⟨hok, by omega, by omega, by omega⟩ hd
          · by_cases hl0 : 20 < l0.length
            · rw [e0, e1]; exact shares_l0 W a b c d _ _ _ _ _ _ ⟨hok, by omega, by omega, by omega, by omega⟩ (by omega)
            · by_cases hl1 : 20 < l1.length
              · rw [e0, e1]; exact shares_l1 W a b c d _ _ _ _ _ _ ⟨hok, by omega, by omega, by omega, by omega, by omega⟩ (by omega)
              · obtain ⟨⟨o1, o2⟩, o3, o4⟩ := okTwo_true hok
                obtain ⟨p, rfl⟩ := Int.eq_ofNat_of_zero_le (show 0 ≤ a by omega)
                obtain ⟨z, rfl⟩ := Int.eq_ofNat_of_zero_le (show 0 ≤ b by omega)
                obtain ⟨c', rfl⟩ := Int.eq_ofNat_of_zero_le (show 0 ≤ c by omega)
                obtain ⟨d', rfl⟩ := Int.eq_ofNat_of_zero_le (show 0 ≤ d by omega)
                exact shares_good W p z c' d' (by omega) (by omega) (by omega) (by omega) v0 v1 l0 l1 h0 h1 (by omega) (by omega)
  · rw [e0, e1]; exact shares_not W a b c d _ _ _ _ _ _ (by simpa using hok)
end Go.Proofs.Ytackjeckafoojaa.KvI
