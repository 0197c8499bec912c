/- Slices cut: what is seen of them; rows of bytes, cut. -/
import Derived.Test.YtplcjgpmainbnaaDoorMkV
set_option linter.unusedVariables false
set_option linter.unusedSimpArgs false
namespace Go.Proofs.YtplcjgpmainbnaaDoor.OwnS
open Go Go.RowKit
section
variable {w : World} {size n : Nat} {xs : List Value}
theorem Sees.takes {g o cap k c : Nat} (h : Sees w size (.slice (some ⟨g, o, none⟩) n cap) n xs) (hk : k ≤ n) (hc : k ≤ c ∧ c ≤ cap) : Sees w size (.slice (some ⟨g, o, none⟩) k c) k (xs.take (k * size)) := by
  have hm := Nat.mul_le_mul_right size hk
  refine ⟨by rw [List.length_take, h.1]; omega, ?_⟩
  rcases h.2 with ⟨h0, A, cap', e, h1⟩ | ⟨g', o', cap', e, h1, h2, h3⟩
  · injection e with e1 e2 e3
    subst e3
    obtain rfl : k = 0 := by omega
    exact .inl ⟨rfl, _, _, rfl, by omega⟩
  · injection e with e1 e2 e3
    injection e1 with e1
    injection e1 with e1 e4
    subst e1 e3 e4
    exact .inr ⟨g, o, c, rfl, by omega, by omega, rangeAt_take h3⟩
theorem Sees.cut {g o cap k : Nat} (h : Sees w size (.slice (some ⟨g, o, none⟩) n cap) n xs) (hk : k ≤ n) (a : Addr) (ha : (cap = k ∧ a = ⟨g, o, none⟩) ∨ a = ⟨g, o + k * size, none⟩) : Sees w size (.slice (some a) (n - k) (cap - k)) (n - k) (xs.drop (k * size)) := by
  have hm := Nat.mul_le_mul_right size hk
  refine ⟨by rw [List.length_drop, h.1, Nat.sub_mul], ?_⟩
  rcases h.2 with ⟨h0, A, cap', e, h1⟩ | ⟨g', o', cap', e, h1, h2, h3⟩
  · injection e with e1 e2 e3
    subst e3
    exact .inl ⟨by omega, _, _, by rw [show n - k = 0 by omega], by omega⟩
  · injection e with e1 e2 e3
    injection e1 with e1
    injection e1 with e1 e4
    subst e1 e3 e4
    rcases ha with ⟨hcap, rfl⟩ | rfl
    · exact .inl ⟨by omega, _, _, by rw [show n - k = 0 by omega], by omega⟩
    · exact .inr ⟨g, _, _, rfl, by omega, by omega, rangeAt_drop h3⟩
end
end Go.Proofs.YtplcjgpmainbnaaDoor.OwnS
namespace Go.Proofs.YtplcjgpmainbnaaDoor.MkW
open Go.RowKit OwnS ShaW
theorem RowsAt.take {w : World} {g o cap k c : Nat} {hs : List Value} {ls : List (List Nat)} (h : RowsAt w (.slice (some ⟨g, o, none⟩) ls.length cap) hs ls) (hk : k ≤ ls.length) (hc : k ≤ c ∧ c ≤ cap) : RowsAt w (.slice (some ⟨g, o, none⟩) k c) (hs.take k) (ls.take k) := by
  have hl : (ls.take k).length = k := by rw [List.length_take]; omega
  refine ⟨?_, fun i l hi => ?_, fun l hl => h.byte l (List.mem_of_mem_take hl)⟩
  · have := h.sees.takes hk hc
    rw [Nat.mul_one] at this
    rwa [hl]
  · have hik : i < k := by have := (List.getElem?_eq_some_iff.1 hi).1; omega
    rw [List.getElem?_take, if_pos hik] at hi ⊢
    exact h.row i l hi
theorem RowsAt.drop {w : World} {g o cap k : Nat} {hs : List Value} {ls : List (List Nat)} (h : RowsAt w (.slice (some ⟨g, o, none⟩) ls.length cap) hs ls) (hk : k ≤ ls.length) (a : Addr) (ha : (cap = k ∧ a = ⟨g, o, none⟩) ∨ a = ⟨g, o + k, none⟩) : RowsAt w (.slice (some a) (ls.length - k) (cap - k)) (hs.drop k) (ls.drop k) := by
  refine ⟨?_, fun i l hi => ?_, fun l hl => h.byte l (List.mem_of_mem_drop hl)⟩
  · have := h.sees.cut hk a (by rwa [Nat.mul_one])
    rw [Nat.mul_one] at this
    rwa [List.length_drop]
  · rw [List.getElem?_drop] at hi ⊢
    exact h.row _ l hi
theorem OwnD.last {w : World} {base : Nat} {v : Value} {ds : List (List Nat)} {d : List Nat} (h : OwnD w base v (ds ++ [d])) : ∃ g o cap, v = .slice (some ⟨g, o, none⟩) (ds.length + 1) cap ∧ ds.length + 1 ≤ cap ∧ cap ≤ maxLen ∧ Dig d ∧ w.rangeAt g (o + ds.length * 32) (bytesV d) ∧ DigsAt w (.slice (some ⟨g, o, none⟩) ds.length cap) ds ∧ g < w.heap.size ∧ base ≤ g := by
  have hl : (ds ++ [d]).length = ds.length + 1 := by simp
  obtain ⟨g, o, cap, rfl, h1, h2, h3, h4, h5, h6⟩ := h.at_ (by omega)
  rw [hl] at h3
  have h9 := DigsAt.take h.digs (k := ds.length) (by omega) cap ⟨by omega, Nat.le_refl _⟩
  rw [List.take_left] at h9
  exact ⟨g, o, cap, by rw [hl], h3, h4, h.dig d (by simp), h6 _ d (by rw [List.getElem?_append_right (Nat.le_refl _), Nat.sub_self]; rfl), h9, h2, h1⟩
def LastPost (W : World) (L : List (List Nat)) (b : List Nat) (e : Ending) (w' : World) : Prop := ∃ g o cap, e = .returned (.tuple #[.slice (some ⟨g, o, none⟩) (L.length + 1) cap, .int .i64 0]) ∧ L.length + 1 ≤ cap ∧ cap ≤ maxLen ∧ w'.rangeAt g (o + L.length * 32) (bytesV b) ∧ DigsAt w' (.slice (some ⟨g, o, none⟩) L.length cap) L ∧ g < w'.heap.size ∧ Below W.heap.size W w'
theorem ProofPost.last {W w' : World} {L : List (List Nat)} {b : List Nat} {e : Ending} (h : ProofPost W (L ++ [b]) e w') : LastPost W L b e w' := by
  obtain ⟨A, c, rfl, ho, hb⟩ := h
  obtain ⟨g, o, cap, e1, h1, h2, h3, h4, h5, h6, h7⟩ := ho.last
  exact ⟨g, o, cap, by rw [e1], h1, h2, h4, h5, h6, hb⟩
theorem Prove_any (W : World) (v : Value) (hs : List Value) (ls : List (List Nat)) (i : Nat) (hG : Glob W) (h : RowsAt W v hs ls) (hn : ls.length ≤ 1000000) (hl : ∀ l ∈ ls, l.length ≤ 1000000) (hi : i < ls.length) : Calls Tryd.prog 18 #[.int .i64 i, v] W (ProofPost W (proofN i (ls.map leafH))) :=
  Prove_some W v hs ls i hG h hn hl hi (revs_any _ (by
    rw [List.length_map]
    have h2 := parts_len ls.length 0 ls.length i
    have h3 : (partsOf ls.length i).length ≤ ls.length := h2
    omega))
end Go.Proofs.YtplcjgpmainbnaaDoor.MkW
