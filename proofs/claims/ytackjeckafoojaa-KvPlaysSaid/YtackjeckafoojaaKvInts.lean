/- Two lists of ints compared. -/
import Derived.Test.YtackjeckafoojaaProg
import Derived.Test.YtackjeckafoojaaKv
import Derived.Test.YtackjeckafoojaaKit
import Derived.KernelRfl
import Derived.BigQuiet
import Derived.Deep.QuietTactic
import Derived.Deep.LoopGhost
import Derived.Lib.Hide
import Derived.WalkSpells
import Derived.Outline
namespace Go.Proofs.Ytackjeckafoojaa.Kv
open Go.RowKit
attribute [local go_sem ↓] Kit.execOp_call_slot
attribute [local go_sem] Kit.callSlot_func

/-- A slice of ints that can be read. -/
structure RdI (W : World) (v : Value) (xs : List Int) : Prop where
  form : ∃ A c, v = .slice A xs.length c
  cell : ∀ j x, xs[j]? = some x → ∃ g cap, v = .slice (some ⟨g, 0, none⟩) xs.length cap ∧ W.cell? ⟨g, j, none⟩ = some (.int .i64 x)
def encI (x : Int) : Value := .int .i64 x
theorem RdI.of_own {W : World} {base : Nat} {e : TypeId} {v : Value} {xs : List Int} (h : W.ownsRow base e 1 v xs.length (xs.map encI)) : RdI W v xs := by
  refine ⟨?_, fun j x hx => ?_⟩
  · rcases h.2 with ⟨rfl, h0⟩ | ⟨g, cap, cur, rfl, _⟩
    · exact ⟨none, 0, by rw [h0]⟩
    · exact ⟨_, _, rfl⟩
  · have hj := (List.getElem?_eq_some_iff.1 hx).1
    obtain ⟨g, cap, e, _, hc⟩ := own_read h (by omega)
    exact ⟨g, cap, e, hc j _ (by rw [List.getElem?_map, hx]; rfl)⟩
theorem RdI.heap {W W' : World} {v : Value} {xs : List Int} (h : RdI W v xs) (hs : ∀ b, v.ownBlock = some b → W'.heap[b]? = W.heap[b]?) : RdI W' v xs := by
  refine ⟨h.form, fun j x hx => ?_⟩
  obtain ⟨g, cap, e, hc⟩ := h.cell j x hx
  refine ⟨g, cap, e, ?_⟩
  rw [World.cell?_of_block (a := ⟨g, j, none⟩) (hs g (by rw [e]; rfl))]
  exact hc

set_option maxRecDepth 100000 in
set_option maxHeartbeats 1000000 in
theorem ints_run {W : World} {v1 v2 : Value} {xs ys : List Int} (h1 : RdI W v1 xs) (h2 : RdI W v2 ys) (hn : xs.length ≤ 1000000) : Calls Try.prog 18 #[v1, v2] W fun e w' => e = .returned (.bool (decide (xs = ys))) ∧ ∃ m, w' = W.drewN m := by
  obtain ⟨A1, p1, rfl⟩ := h1.form
  obtain ⟨A2, p2, rfl⟩ := h2.form
  have H := Lib.hid (And.intro h1 h2)
  clear h1 h2
  by_cases hl : xs.length = ys.length
  · have hl0 : ((xs.length : Int) == (ys.length : Int)) = true := by simp [hl]
    have HL := Lib.hid hl
    go_enter Try.func18, Try.ntmps18
    go_wp2_with fail
    go_loopw [5] (fun i wr => ∃ k : Nat, k ≤ xs.length ∧ i = .int .i64 k ∧ Hid (∀ j, j < k → xs[j]? = ys[j]?) ∧ ∃ m, wr = W.drewN m)
      (fun i _ => xs.length - (intOf i).toNat)
    case atStart => exact ⟨0, Nat.zero_le _, rfl, Lib.hid (by intro j hj; omega), 0, rfl⟩
    case round =>
      obtain ⟨k, hk, rfl, hsame, m, rfl⟩ := hrel
      by_cases hlt : k < xs.length
      · have hlt2 : k < ys.length := by have := HL.out; omega
        obtain ⟨g1, cap1, e1, x0⟩ := H.out.1.cell k xs[k] (List.getElem?_eq_getElem hlt)
        obtain ⟨g2, cap2, e2, y0⟩ := H.out.2.cell k ys[k] (List.getElem?_eq_getElem hlt2)
        obtain ⟨x, hx⟩ : ∃ x, x = xs[k] := ⟨_, rfl⟩
        obtain ⟨y, hy⟩ : ∃ y, y = ys[k] := ⟨_, rfl⟩
        rw [← hx] at x0
        rw [← hy] at y0
        injection e1 with e1 _ ec1
        injection e2 with e2 _ ec2
        subst e1
        subst e2
        subst ec1
        subst ec2
        have i1 : (k : Int) < (xs.length : Int) := by omega
        have i2 : (k : Int) < (ys.length : Int) := by omega
        have i3 : (0 : Int) ≤ (k : Int) := by omega
        by_cases hxy : x = y
        · have HN : Hid (∀ j, j < k + 1 → xs[j]? = ys[j]?) := by
            intro j hj
            by_cases hjk : j = k
            · subst hjk
              rw [List.getElem?_eq_getElem hlt, List.getElem?_eq_getElem hlt2, ← hx, ← hy, hxy]
            · exact hsame.out j (by omega)
          subst hxy
          clear hx hy hsame hl
          go_wp2_with fail
          go_quiet (fail)
          go_wp2_with fail
          go_roundw
          case rel => exact ⟨k + 1, by omega, by go_num, HN, _, rfl⟩
          case measure => simp [intOf]; omega
        · have HN : Hid (xs ≠ ys) := by
            show xs ≠ ys
            rintro rfl
            exact hxy (hx.trans hy.symm)
          have hxy0 : (x == y) = false := by simpa using hxy
          clear hx hy hsame hl
          go_wp2_with fail
          go_quiet (fail)
          go_wp2_with fail
          try (rw [Exit.noGoto_ret])
          go_ret
          exact ⟨by rw [decide_eq_false HN.out]; rfl, _, World.drewN_drewN _ _ _⟩
      · obtain rfl : k = xs.length := by omega
        have HN : Hid (xs = ys) := by
          show xs = ys
          refine List.ext_getElem? fun j => ?_
          rcases Nat.lt_or_ge j xs.length with h | h
          · exact hsame.out j h
          · rw [List.getElem?_eq_none h, List.getElem?_eq_none (by have := HL.out; omega)]
        clear hsame hl
        go_wp2_with fail
        try (rw [Exit.noGoto_ret])
        go_ret
        exact ⟨by rw [decide_eq_true HN.out]; rfl, _, rfl⟩
  · have hl0 : ((xs.length : Int) == (ys.length : Int)) = false := by simp; omega
    have HN : Hid (xs ≠ ys) := by
      show xs ≠ ys
      rintro rfl
      exact hl rfl
    go_enter Try.func18, Try.ntmps18
    go_wp2_with fail
    go_ret
    exact ⟨by rw [decide_eq_false HN.out]; rfl, 0, rfl⟩
end Go.Proofs.Ytackjeckafoojaa.Kv
