/- cupellaw11.Made: what it hands back, whatever it is given. -/
import Derived.Test.YtfhaebaegkpkhaaMdY2
import Derived.Test.YtfhaebaegkpkhaaMdY4
import Derived.Test.YtfhaebaegkpkhaaSRow
set_option linter.unusedVariables false
set_option linter.unusedSimpArgs false
namespace Go.Proofs.Ytfhaebaegkpkhaa.Fil
open Go.RowKit OwnS Byt QTail Cfg Ten Bpe RevL
/-- What Made hands back. -/
def MdRes (W : World) (fill : List Int) (e : Ending) (w' : World) : Prop := ∃ (L : List Value) (b : Bool), e = .returned (.tuple #[.agg L.toArray, .bool b]) ∧ L.length = 16 ∧ (∀ u ∈ L, u.oneCell' = true) ∧ (∃ d : Int, 0 ≤ d ∧ L[1]? = some (.int .i64 d)) ∧ Below W.heap.size W w' ∧
  (b = true → ∃ (s : Sz) (M : Mod) (h : ModH) (H : List (Lay × LayH)), Sz.ok s ∧ M = madeM s fill ∧ M.err = 0 ∧ L = modC M h ∧ ModSees w' M h H)
theorem MdRes.no {W w' : World} {fill : List Int} {e : Ending} (h : MdNo W e w') : MdRes W fill e w' :=
  ⟨zeroL, false, h.1, rfl, zeroL_one, ⟨0, by decide, rfl⟩, h.2, fun h => by cases h⟩
theorem MdRes.yes {W w' : World} {fill : List Int} {s : Sz} (hs : s.ok) {e : Ending} (h : MdYes W fill s e w') : MdRes W fill e w' := by
  obtain ⟨h1, H, rfl, hsee, hb⟩ := h
  refine ⟨modC (madeM s fill) h1, _, rfl, rfl, ?_, ⟨(s.d : Int), by omega, rfl⟩, hb, fun hb' => ⟨s, madeM s fill, h1, H, hs, rfl, by simpa using hb', rfl, hsee⟩⟩
  obtain ⟨a1, c1, a2, c2, a3, c3, a4, c4, a5, c5, a6, c6, rfl⟩ := shapes hsee
  simp [modC, Value.oneCell']
theorem made_any (W : World) (s0 s1 s2 s3 s4 s5 : Int) (A : Option Addr) (n c : Nat) (fill : List Int) (hf : Ints W (.slice A n c) fill) (hn : n = fill.length) :
    Calls Try.prog 19 #[specV s0 s1 s2 s3 s4 s5 (.slice A n c)] W (MdRes W fill) := by
  by_cases h1 : s0 < 2 ∨ 12 < s0 ∨ (s1 ≠ 2 ∧ s1 ≠ 4) ∨ s2 < 1 ∨ 2 < s2 ∨ s1 % (2 * s2) ≠ 0
  · exact (made_no1 W s0 s1 s2 s3 s4 s5 A n c h1).mono fun e w' h => .no h
  · have g0 : 2 ≤ s0 ∧ s0 ≤ 12 := ⟨by omega, by omega⟩
    have g2 : 1 ≤ s2 ∧ s2 ≤ 2 := ⟨by omega, by omega⟩
    have g3 : s1 % (2 * s2) = 0 := Classical.byContradiction fun h => h1 (.inr (.inr (.inr (.inr (.inr h)))))
    by_cases h2 : s3 < 1 ∨ 2 < s3 ∨ s4 < 2 ∨ 8 < s4 ∨ s5 < 1 ∨ 4 < s5 ∨ n < 1 ∨ 80 < n
    · rcases (show s1 = 2 ∨ s1 = 4 by omega) with rfl | rfl
      · have : s2 = 1 := by
          rcases (show s2 = 1 ∨ s2 = 2 by omega) with rfl | rfl
          · rfl
          · cases g3
        subst this
        exact (made_no2 W s0 2 1 s3 s4 s5 A n c ⟨⟨by omega, by omega⟩, ⟨rfl, rfl⟩, h2⟩).mono fun e w' h => .no h
      · exact (made_no3 W s0 4 s2 s3 s4 s5 A n c ⟨⟨by omega, by omega⟩, ⟨rfl, by omega⟩, h2⟩).mono fun e w' h => .no h
    · obtain ⟨v, rfl⟩ := Int.eq_ofNat_of_zero_le (show 0 ≤ s0 by omega)
      obtain ⟨hd, rfl⟩ := Int.eq_ofNat_of_zero_le (show 0 ≤ s2 by omega)
      obtain ⟨l, rfl⟩ := Int.eq_ofNat_of_zero_le (show 0 ≤ s3 by omega)
      obtain ⟨cx, rfl⟩ := Int.eq_ofNat_of_zero_le (show 0 ≤ s4 by omega)
      obtain ⟨x, rfl⟩ := Int.eq_ofNat_of_zero_le (show 0 ≤ s5 by omega)
      rcases (show s1 = 2 ∨ s1 = 4 by omega) with rfl | rfl
      · have hs : Sz.ok ⟨v, 2, hd, l, cx, x⟩ := by
          refine ⟨⟨by simp only; omega, by simp only; omega⟩, .inl rfl, ⟨by simp only; omega, by simp only; omega⟩, ?_, ⟨by simp only; omega, by simp only; omega⟩, ⟨by simp only; omega, by simp only; omega⟩, ⟨by simp only; omega, by simp only; omega⟩⟩
          simp only
          rcases (show hd = 1 ∨ hd = 2 by omega) with rfl | rfl
          · rfl
          · cases g3
        by_cases hall : ∀ y ∈ fill, -16777216 ≤ y ∧ y ≤ 16777216
        · exact (made_yes2 W v hd l cx x A n c fill hf hn hs (by omega) hall).mono fun e w' h => .yes hs h
        · exact (made_bad2 W v hd l cx x A n c fill hf hn hs (by omega) hall).mono fun e w' h => .no h
      · have hs : Sz.ok ⟨v, 4, hd, l, cx, x⟩ := by
          refine ⟨⟨by simp only; omega, by simp only; omega⟩, .inr rfl, ⟨by simp only; omega, by simp only; omega⟩, ?_, ⟨by simp only; omega, by simp only; omega⟩, ⟨by simp only; omega, by simp only; omega⟩, ⟨by simp only; omega, by simp only; omega⟩⟩
          simp only
          rcases (show hd = 1 ∨ hd = 2 by omega) with rfl | rfl <;> rfl
        by_cases hall : ∀ y ∈ fill, -16777216 ≤ y ∧ y ≤ 16777216
        · exact (made_yes4 W v hd l cx x A n c fill hf hn hs (by omega) hall).mono fun e w' h => .yes hs h
        · exact (made_bad4 W v hd l cx x A n c fill hf hn hs (by omega) hall).mono fun e w' h => .no h
end Go.Proofs.Ytfhaebaegkpkhaa.Fil
