/- A nil pool, and things that are texts. -/
import Derived.Test.YtackjeckafoojaaKvRow
import Derived.Test.YtackjeckafoojaaKvSH
import Derived.Test.YtackjeckafoojaaKvAwake
namespace Go.Proofs.Ytackjeckafoojaa.KvI
open Go.RowKit Kv
attribute [local go_sem ↓] Kit.execOp_call_slot
attribute [local go_sem] Kit.callSlot_func
variable (W : World)

theorem nil_find (id : Int) : Calls Try.prog 39 #[.pointer none, .int .i64 id] W fun e w' => e = .returned (.tuple #[.pointer none, .int .i64 2]) ∧ W = w' := by
  go_enter Try.func39, Try.ntmps39
  go_wp2_with fail
  go_ret2
  exact ⟨rfl, rfl⟩
theorem nil_Open : Calls Try.prog 14 #[.pointer none] W fun e w' => e = .returned (.tuple #[.int .i64 0, .int .i64 2]) ∧ W = w' := by
  go_enter Try.func14, Try.ntmps14
  go_wp2_with fail
  go_ret2
  exact ⟨rfl, rfl⟩
theorem nil_Share (id n : Int) : Calls Try.prog 17 #[.pointer none, .int .i64 id, .int .i64 n] W fun e w' => e = .returned (.tuple #[.int .i64 0, .int .i64 2]) ∧ W = w' := by
  have HC := Lib.hid (nil_find W id)
  go_enter Try.func17, Try.ntmps17
  go_wp2_with fail
  with_reducible refine Calls.mono HC.out ?_
  rintro e w1 ⟨rfl, rfl⟩
  go_wp2_with fail
  go_ret2
  exact ⟨rfl, rfl⟩
theorem nil_Get (id n : Int) : Calls Try.prog 22 #[.pointer none, .int .i64 id, .int .i64 n] W fun e w' => e = .returned (.tuple #[.int .i64 0, .int .i64 2]) ∧ W = w' := by
  have HC := Lib.hid (nil_find W id)
  go_enter Try.func22, Try.ntmps22
  go_wp2_with fail
  with_reducible refine Calls.mono HC.out ?_
  rintro e w1 ⟨rfl, rfl⟩
  go_wp2_with fail
  go_ret2
  exact ⟨rfl, rfl⟩
theorem nil_Len (id : Int) : Calls Try.prog 23 #[.pointer none, .int .i64 id] W fun e w' => e = .returned (.tuple #[.int .i64 0, .int .i64 2]) ∧ W = w' := by
  have HC := Lib.hid (nil_find W id)
  go_enter Try.func23, Try.ntmps23
  go_wp2_with fail
  with_reducible refine Calls.mono HC.out ?_
  rintro e w1 ⟨rfl, rfl⟩
  go_wp2_with fail
  go_ret2
  exact ⟨rfl, rfl⟩
theorem nil_Append (id n : Int) : Calls Try.prog 15 #[.pointer none, .int .i64 id, .int .i64 n] W fun e w' => e = .returned (.int .i64 2) ∧ W = w' := by
  have HC := Lib.hid (nil_find W id)
  go_enter Try.func15, Try.ntmps15
  go_wp2_with fail
  with_reducible refine Calls.mono HC.out ?_
  rintro e w1 ⟨rfl, rfl⟩
  go_wp2_with fail
  go_ret
  exact ⟨rfl, rfl⟩
theorem nil_Close (id : Int) : Calls Try.prog 12 #[.pointer none, .int .i64 id] W fun e w' => e = .returned (.int .i64 2) ∧ W = w' := by
  have HC := Lib.hid (nil_find W id)
  go_enter Try.func12, Try.ntmps12
  go_wp2_with fail
  with_reducible refine Calls.mono HC.out ?_
  rintro e w1 ⟨rfl, rfl⟩
  go_wp2_with fail
  go_ret
  exact ⟨rfl, rfl⟩
theorem nil_Pages (id : Int) : Calls Try.prog 19 #[.pointer none, .int .i64 id] W fun e w' => e = .returned (.slice none 0 0) ∧ W = w' := by
  have HC := Lib.hid (nil_find W id)
  go_enter Try.func19, Try.ntmps19
  go_wp2_with fail
  with_reducible refine Calls.mono HC.out ?_
  rintro e w1 ⟨rfl, rfl⟩
  go_wp2_with fail
  go_ret
  exact ⟨rfl, rfl⟩
theorem nil_Count (id : Int) : Calls Try.prog 20 #[.pointer none, .int .i64 id] W fun e w' => e = .returned (.int .i64 0) ∧ W = w' := by
  go_enter Try.func20, Try.ntmps20
  go_wp2_with fail
  go_ret
  exact ⟨rfl, rfl⟩
theorem nil_Free : Calls Try.prog 13 #[.pointer none] W fun e w' => e = .returned (.int .i64 0) ∧ W = w' := by
  go_enter Try.func13, Try.ntmps13
  go_wp2_with fail
  go_ret
  exact ⟨rfl, rfl⟩
theorem nil_row (id : Int) : Calls Try.prog 16 #[.pointer none, .int .i64 id] W (RowPost W []) :=
  row_run W _ id [] (by simp) fun W' _ => all_run _ id [] 2 (by decide) (by simp) fun k W'' _ hk => by
    obtain rfl : k = 0 := by simpa using hk
    exact (nil_Get W'' id 0).mono fun e w' ⟨h1, h2⟩ => ⟨h1, 0, h2.symm⟩

def st0 : PSt ByteArray := emptyP ByteArray 1 1
def st1 : PSt ByteArray := (st0.open_ [] 0).1
def st2 (x : ByteArray) : PSt ByteArray := (st1.append 0 x).1
theorem st1_eq : st1 = ⟨[([], 0)], 1, [some ([], 0)]⟩ := by simp [st1, st0, emptyP, PSt.open_, incAll]
theorem st2_eq (x : ByteArray) : st2 x = ⟨[([x], 1)], 1, [some ([0], 1)]⟩ := by
  simp [st2, st1_eq, PSt.append, PSt.find, PSt.row, PSt.first, PSt.cnt, PSt.setPage, PSt.setRow, PSt.put, PSt.lst, List.range, List.range.loop]
theorem st3_eq (x : ByteArray) : (st2 x).append 0 x = (st2 x, 16) := by
  simp [st2_eq, PSt.append, PSt.find, PSt.row, PSt.first, PSt.cnt, List.range, List.range.loop]
theorem st_i0 : Inv st0 := inv_new 1 1 (by omega) (by omega)
theorem st_i1 : Inv st1 := inv_openI st_i0
theorem st_i2 (x : ByteArray) : Inv (st2 x) := inv_append st_i1 _ _
section
variable {W} {w0 w : World} {ρ0 : Nat → Option Role} {G : Nat}
theorem st_c0 (W : World) : Calls Try.prog 24 #[.int .i64 1, .int .i64 1] W fun e w' => e = .returned (.tuple #[.pointer (some ⟨W.heap.size + 2, 0, none⟩), .int .i64 0]) ∧ w' = freshW KvS.K W 1 1 := KvS.new_good W 1 1 (by omega) (by omega)
theorem st_c1 (h : Held KvS.K KvS.enc w0 ρ0 G w st0) : Calls Try.prog 25 #[.pointer (some ⟨G, 0, none⟩)] w fun e w' => e = .returned (.tuple #[.int .i64 0, .int .i64 0]) ∧ Held KvS.K KvS.enc w0 ρ0 G w' st1 := h.open_S st_i0
theorem st_c2 (x : ByteArray) (h : Held KvS.K KvS.enc w0 ρ0 G w st1) : Calls Try.prog 26 #[.pointer (some ⟨G, 0, none⟩), .int .i64 0, .string x] w fun e w' => e = .returned (.int .i64 0) ∧ Held KvS.K KvS.enc w0 ρ0 G w' (st2 x) := h.append_S st_i1 0 x
theorem st_c3 (x : ByteArray) (h : Held KvS.K KvS.enc w0 ρ0 G w (st2 x)) : Calls Try.prog 26 #[.pointer (some ⟨G, 0, none⟩), .int .i64 0, .string x] w fun e w' => e = .returned (.int .i64 16) ∧ Held KvS.K KvS.enc w0 ρ0 G w' (st2 x) := by
  have e1 := st3_eq x
  have := h.append_S (st_i2 x) 0 x
  rw [e1] at this
  exact this
theorem st_c4 (x : ByteArray) (h : Held KvS.K KvS.enc w0 ρ0 G w (st2 x)) : Calls Try.prog 27 #[.pointer (some ⟨G, 0, none⟩), .int .i64 0, .int .i64 0] w fun e w' => e = .returned (.tuple #[.string x, .int .i64 0]) ∧ Held KvS.K KvS.enc w0 ρ0 G w' (st2 x) := by
  have h0 := h
  obtain ⟨ρ, L, hP, rfl, hF⟩ := h
  rw [st2_eq] at hP
  refine (KvS.get_in hP (id := 0) (ps := [0]) (n := 1) 0 (by simp [PSt.find, PSt.row]) (by omega) (by omega) ⟨by show 1 ≤ 1; omega, by show 1 ≤ 64; omega⟩ 0 (by simp) (by show 0 < 1; omega) x (by simp [PSt.lst]) (by simp [PSt.lst]) (by simp) (by show 1 ≤ 256; omega)).mono ?_
  rintro e w' ⟨rfl, m, rfl⟩
  exact ⟨rfl, h0.drewN m⟩
end
set_option maxRecDepth 100000 in
set_option maxHeartbeats 2000000 in
theorem nil_run (x : ByteArray) (n : Int) : Calls Try.prog 7 #[.string x, .int .i64 n] W fun e w' => e = .returned (.bool true) ∧ Below W.heap.size W w' := by
  have HA := Lib.hid (nil_row W n)
  go_enter Try.func7, Try.ntmps7
  go_wp2_with fail
  with_reducible refine Calls.mono HA.out ?_
  rintro e w1 ⟨v, rfl, hv⟩
  obtain ⟨A, cp, rfl⟩ := own_form hv.own
  have HV := Lib.hid hv
  clear hv
  go_wp2_with fail
  with_reducible refine Calls.mono (nil_Open w1) ?_
  rintro e w2 ⟨rfl, rfl⟩
  go_wp2_with fail
  with_reducible refine Calls.mono (nil_Share w1 n n) ?_
  rintro e w2 ⟨rfl, rfl⟩
  go_wp2_with fail
  with_reducible refine Calls.mono (nil_Get w1 n n) ?_
  rintro e w2 ⟨rfl, rfl⟩
  go_wp2_with fail
  with_reducible refine Calls.mono (nil_Len w1 n) ?_
  rintro e w2 ⟨rfl, rfl⟩
  go_wp2_with fail
  with_reducible refine Calls.mono (nil_Append w1 n n) ?_
  rintro e w2 ⟨rfl, rfl⟩
  go_wp2_with fail
  with_reducible refine Calls.mono (nil_Close w1 n) ?_
  rintro e w2 ⟨rfl, rfl⟩
  go_wp2_with fail
  with_reducible refine Calls.mono (nil_Pages w1 n) ?_
  rintro e w2 ⟨rfl, rfl⟩
  go_wp2_with fail
  with_reducible refine Calls.mono (nil_Count w1 n) ?_
  rintro e w2 ⟨rfl, rfl⟩
  go_wp2_with fail
  with_reducible refine Calls.mono (nil_Free w1) ?_
  rintro e w2 ⟨rfl, rfl⟩
  go_wp2_with fail
  with_reducible refine Calls.mono (st_c0 w1) ?_
  rintro e w2 ⟨rfl, hw⟩
  have h0 := Held.fresh KvS.K KvS.enc w1 1 1
  rw [← hw] at h0
  have HB := Lib.hid (show Below w1.heap.size w1 w2 by rw [hw]; exact freshW_below _ _ _ _)
  have H0 := Lib.hid h0
  clear h0 hw
  go_wp2_with fail
  with_reducible refine Calls.mono (st_c1 H0.out) ?_
  rintro e w3 ⟨rfl, h1⟩
  have H1 := Lib.hid h1
  clear h1
  go_wp2_with fail
  with_reducible refine Calls.mono (st_c2 x H1.out) ?_
  rintro e w4 ⟨rfl, h2⟩
  have H2 := Lib.hid h2
  clear h2
  go_wp2_with fail
  with_reducible refine Calls.mono (st_c3 x H2.out) ?_
  rintro e w5 ⟨rfl, h3⟩
  have H3 := Lib.hid h3
  clear h3
  go_wp2_with fail
  with_reducible refine Calls.mono (st_c4 x H3.out) ?_
  rintro e w6 ⟨rfl, h4⟩
  have H4 := Lib.hid h4
  clear h4
  go_wp2_with fail
  with_reducible refine Calls.mono (KvB.awake_run w6) ?_
  rintro e w7 ⟨rfl, h5⟩
  have H5 := Lib.hid h5
  clear h5
  go_wp2_with fail
  go_ret
  have hb1 : Below w1.heap.size w1 w6 := H4.out.out HB.out (fun k hk => freshR_lt _ _ hk)
  exact ⟨rfl, below_trans HV.out.below (below_trans hb1 H5.out)⟩
end Go.Proofs.Ytackjeckafoojaa.KvI
