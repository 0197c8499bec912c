/- The chapter's example. -/
import Derived.Test.YtackjeckafoojaaKvBH
namespace Go.Proofs.Ytackjeckafoojaa.KvB
open Go.RowKit Kv
attribute [local go_sem ↓] Kit.execOp_call_slot
attribute [local go_sem] Kit.callSlot_func

def aw0 : PSt Int := emptyP Int 2 2
def aw1 : PSt Int := (aw0.open_ [] 0).1
def aw2 : PSt Int := (aw1.append 0 97).1
def aw3 : PSt Int := (aw2.append 0 98).1
def aw4 : PSt Int := (aw3.append 0 99).1
def aw5 : PSt Int := (aw4.share 0 3).1
def aw6 : PSt Int := (aw5.append 1 100).1
def aw7 : PSt Int := (aw6.close 0).1
def aw8 : PSt Int := (aw7.append 1 100).1
theorem aw_r9 : ((aw8.find 1).map (·.1)).getD [] = [0, 1] := by decide
theorem aw_i0 : Inv aw0 := inv_new 2 2 (by omega) (by omega)
theorem aw_i1 : Inv aw1 := inv_openI aw_i0
theorem aw_i2 : Inv aw2 := inv_append aw_i1 _ _
theorem aw_i3 : Inv aw3 := inv_append aw_i2 _ _
theorem aw_i4 : Inv aw4 := inv_append aw_i3 _ _
theorem aw_i5 : Inv aw5 := inv_share aw_i4 _ _
theorem aw_i6 : Inv aw6 := inv_append aw_i5 _ _
theorem aw_i7 : Inv aw7 := inv_closeI aw_i6 _
theorem aw_i8 : Inv aw8 := inv_append aw_i7 _ _

theorem aw_c1 {w0 w : World} {ρ0 : Nat → Option Role} {G : Nat} (h : Held K enc w0 ρ0 G w aw0) : Calls Try.prog 29 #[.pointer (some ⟨G, 0, none⟩)] w fun e w' => e = .returned (.tuple #[.int .i64 0, .int .i64 0]) ∧ Held K enc w0 ρ0 G w' aw1 := h.open_B aw_i0
theorem aw_c2 {w0 w : World} {ρ0 : Nat → Option Role} {G : Nat} (h : Held K enc w0 ρ0 G w aw1) : Calls Try.prog 30 #[.pointer (some ⟨G, 0, none⟩), .int .i64 0, .int .u8 97] w fun e w' => e = .returned (.int .i64 0) ∧ Held K enc w0 ρ0 G w' aw2 := h.append_B aw_i1 0 97
theorem aw_c3 {w0 w : World} {ρ0 : Nat → Option Role} {G : Nat} (h : Held K enc w0 ρ0 G w aw2) : Calls Try.prog 30 #[.pointer (some ⟨G, 0, none⟩), .int .i64 0, .int .u8 98] w fun e w' => e = .returned (.int .i64 0) ∧ Held K enc w0 ρ0 G w' aw3 := h.append_B aw_i2 0 98
theorem aw_c4 {w0 w : World} {ρ0 : Nat → Option Role} {G : Nat} (h : Held K enc w0 ρ0 G w aw3) : Calls Try.prog 30 #[.pointer (some ⟨G, 0, none⟩), .int .i64 0, .int .u8 99] w fun e w' => e = .returned (.int .i64 0) ∧ Held K enc w0 ρ0 G w' aw4 := h.append_B aw_i3 0 99
theorem aw_c5 {w0 w : World} {ρ0 : Nat → Option Role} {G : Nat} (h : Held K enc w0 ρ0 G w aw4) : Calls Try.prog 31 #[.pointer (some ⟨G, 0, none⟩), .int .i64 0, .int .i64 3] w fun e w' => e = .returned (.tuple #[.int .i64 1, .int .i64 0]) ∧ Held K enc w0 ρ0 G w' aw5 := h.share_B aw_i4 0 3
theorem aw_c6 {w0 w : World} {ρ0 : Nat → Option Role} {G : Nat} (h : Held K enc w0 ρ0 G w aw5) : Calls Try.prog 30 #[.pointer (some ⟨G, 0, none⟩), .int .i64 1, .int .u8 100] w fun e w' => e = .returned (.int .i64 16) ∧ Held K enc w0 ρ0 G w' aw6 := h.append_B aw_i5 1 100
theorem aw_c7 {w0 w : World} {ρ0 : Nat → Option Role} {G : Nat} (h : Held K enc w0 ρ0 G w aw6) : Calls Try.prog 32 #[.pointer (some ⟨G, 0, none⟩), .int .i64 0] w fun e w' => e = .returned (.int .i64 0) ∧ Held K enc w0 ρ0 G w' aw7 := h.close_B aw_i6 0
theorem aw_c8 {w0 w : World} {ρ0 : Nat → Option Role} {G : Nat} (h : Held K enc w0 ρ0 G w aw7) : Calls Try.prog 30 #[.pointer (some ⟨G, 0, none⟩), .int .i64 1, .int .u8 100] w fun e w' => e = .returned (.int .i64 0) ∧ Held K enc w0 ρ0 G w' aw8 := h.append_B aw_i7 1 100

set_option maxRecDepth 100000 in
set_option maxHeartbeats 1000000 in
theorem awake_run (W : World) : Calls Try.prog 9 #[] W fun e w' => e = .returned (.bool true) ∧ Below W.heap.size W w' := by
  have HN := Lib.hid (show Calls Try.prog 28 #[.int .i64 2, .int .i64 2] W _ from new_good W 2 2 (by omega) (by omega))
  go_enter Try.func9, Try.ntmps9
  go_wp2_with fail
  with_reducible refine Calls.mono HN.out ?_
  rintro e w1 ⟨rfl, hw⟩
  have h0 := Held.fresh K enc W 2 2
  rw [← hw] at h0
  have HB := Lib.hid (show Below W.heap.size W w1 by rw [hw]; exact freshW_below _ _ _ _)
  have H0 := Lib.hid h0
  clear h0 hw
  go_wp2_with fail
  with_reducible refine Calls.mono (aw_c1 H0.out) ?_
  rintro e w2 ⟨rfl, h1⟩
  have H1 := Lib.hid h1
  clear h1
  go_wp2_with fail
  with_reducible refine Calls.mono (aw_c2 H1.out) ?_
  rintro e w3 ⟨rfl, h2⟩
  have H2 := Lib.hid h2
  clear h2
  go_wp2_with fail
  with_reducible refine Calls.mono (aw_c3 H2.out) ?_
  rintro e w4 ⟨rfl, h3⟩
  have H3 := Lib.hid h3
  clear h3
  go_wp2_with fail
  with_reducible refine Calls.mono (aw_c4 H3.out) ?_
  rintro e w5 ⟨rfl, h4⟩
  have H4 := Lib.hid h4
  clear h4
  go_wp2_with fail
  with_reducible refine Calls.mono (aw_c5 H4.out) ?_
  rintro e w6 ⟨rfl, h5⟩
  have H5 := Lib.hid h5
  clear h5
  go_wp2_with fail
  with_reducible refine Calls.mono (aw_c6 H5.out) ?_
  rintro e w7 ⟨rfl, h6⟩
  have H6 := Lib.hid h6
  clear h6
  go_wp2_with fail
  with_reducible refine Calls.mono (aw_c7 H6.out) ?_
  rintro e w8 ⟨rfl, h7⟩
  have H7 := Lib.hid h7
  clear h7
  go_wp2_with fail
  with_reducible refine Calls.mono (aw_c8 H7.out) ?_
  rintro e w9 ⟨rfl, h8⟩
  have H8 := Lib.hid h8
  clear h8
  go_wp2_with fail
  with_reducible refine Calls.mono (H8.out.pages_B aw_i8 1) ?_
  rintro e w10 ⟨v, rfl, hr, hb, h9⟩
  rw [aw_r9] at hr
  have H9 := Lib.hid h9
  clear h9 hb
  go_wp2_with fail
  have hl : RdI (w10.alloc (.cells #[.int .i64 0, .int .i64 1] 3)) (.slice (some ⟨w10.heap.size, 0, none⟩) 2 2) [0, 1] := by
    refine ⟨⟨_, _, rfl⟩, fun j x hx => ⟨_, _, rfl, ?_⟩⟩
    rw [cell_of_row _ w10.heap.size j _ _ _ (heap_alloc_new w10 _)]
    match j, hx with
    | 0, hx => simp at hx; subst hx; rfl
    | 1, hx => simp at hx; subst hx; rfl
    | j + 2, hx => simp at hx
  have hr2 : RdI (w10.alloc (.cells #[.int .i64 0, .int .i64 1] 3)) v [0, 1] := hr.heap fun b hb => Below.heap_alloc _ _ _ (by
    obtain ⟨g, cap, e, hc⟩ := hr.cell 0 0 rfl
    rw [e] at hb
    injection hb with hb
    rw [← hb]
    exact block_lt_of_cell hc)
  with_reducible refine Calls.mono (ints_run hr2 hl (by simp)) ?_
  rintro e w11 ⟨rfl, m, rfl⟩
  go_wp2_with fail
  go_ret
  exact ⟨rfl, ((H9.out.below ((Below.refl _ _).alloc (Nat.le_refl _) _)).drewN m).out HB.out (fun k hk => freshR_lt _ _ hk)⟩
end Go.Proofs.Ytackjeckafoojaa.KvB
