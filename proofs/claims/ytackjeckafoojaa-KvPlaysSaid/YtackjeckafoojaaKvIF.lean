/- A pool of things of type int: a free page, a page taken, a row opened. -/
import Derived.Test.YtackjeckafoojaaKvI
namespace Go.Proofs.Ytackjeckafoojaa.KvI
open Go.RowKit Kv
attribute [local go_sem ↓] Kit.execOp_call_slot
attribute [local go_sem] Kit.callSlot_func
variable {W : World} {ρ : Nat → Option Role} {L : Lay} {s : PSt Int}

set_option maxRecDepth 100000 in
set_option maxHeartbeats 1000000 in
theorem free_any (h : PoolAt K enc W ρ L s) (hnp : s.pages.length ≤ 256) : Calls Try.prog 54 #[.pointer (some ⟨L.g, 0, none⟩)] W fun e w' => e = .returned (.int .i64 (firstI s)) ∧ Below W.heap.size W w' := by
  have H := Lib.hid h
  obtain ⟨c0, c1, c2, c3⟩ := h.cells
  clear h
  go_enter Try.func54, Try.ntmps54
  go_wp2_with fail
  try go_step3
  try go_wp2_with fail
  try go_step3
  try go_wp2_with fail
  go_loopw [3, 11] (fun o i wr => ∃ k : Nat, k ≤ s.pages.length ∧ i = .int .i64 k ∧ o = .int .i64 (-1) ∧ Hid (∀ j, j < k → s.cnt j ≠ 0) ∧ Below W.heap.size W wr)
    (fun _ i _ => s.pages.length - (intOf i).toNat)
  case atStart => exact ⟨0, Nat.zero_le _, rfl, rfl, Lib.hid (by intro j hj; omega), Below.refl _ _⟩
  case round =>
    obtain ⟨k, hk, rfl, rfl, hno, hb⟩ := hrel
    have HB := Lib.hid hb
    by_cases hlt : k < s.pages.length
    · have hw := H.out.below hb
      obtain ⟨p0, p1⟩ := hw.pageCell k hlt
      obtain ⟨A, cp, hlv⟩ := own_form (hw.page k hlt)
      rw [hlv] at p0
      clear hlv hw hb
      by_cases hc : s.cnt k = 0
      · have hc0 : (s.cnt k == 0) = true := by simpa using hc
        have HF : Hid (firstI s = k) := by
          show firstI s = k
          unfold firstI
          rw [first_some hlt hno.out hc]
        clear hc
        go_wp2_with fail
        try (rw [Exit.noGoto_ret])
        go_ret
        exact ⟨by rw [HF.out]; rfl, HB.out.alloc HB.out.size _⟩
      · have hc0 : (s.cnt k == 0) = false := by simpa using hc
        have HN : Hid (∀ j, j < k + 1 → s.cnt j ≠ 0) := by
          intro j hj
          by_cases hjk : j = k
          · subst hjk; exact hc
          · exact hno.out j (by omega)
        clear hc
        go_wp2_with fail
        go_roundw
        case rel => exact ⟨k + 1, by omega, by go_num, rfl, HN, HB.out.alloc HB.out.size _⟩
        case measure => simp [intOf]; omega
    · obtain rfl : k = s.pages.length := by omega
      have HF : Hid (firstI s = -1) := by
        show firstI s = -1
        unfold firstI
        rw [first_none hno.out]
      clear hb hno
      go_wp2_with fail
      try (rw [Exit.noGoto_ret])
      go_ret
      exact ⟨by rw [HF.out]; rfl, HB.out⟩
end Go.Proofs.Ytackjeckafoojaa.KvI
