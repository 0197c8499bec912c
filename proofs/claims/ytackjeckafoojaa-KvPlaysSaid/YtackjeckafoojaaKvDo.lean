/- A call told by its number, beside a reference pool that has no rows. -/
import Derived.Test.YtackjeckafoojaaKvSh2
namespace Go.Proofs.Ytackjeckafoojaa.Kv
def PSt.do_ (s : PSt Int) (ask id n : Int) : PSt Int :=
  if ask = 0 then (s.open_ [] 0).1 else if ask = 1 then (s.append id n).1 else if ask = 2 then (s.share id n).1 else if ask = 3 then (s.close id).1 else s
theorem inv_do {s : PSt Int} (h : Inv s) (ask id n : Int) : Inv (s.do_ ask id n) := by
  unfold PSt.do_
  split
  · exact inv_openI h
  · split
    · exact inv_append h _ _
    · split
      · exact inv_share h _ _
      · split
        · exact inv_closeI h _
        · exact h
end Go.Proofs.Ytackjeckafoojaa.Kv
namespace Go.Proofs.Ytackjeckafoojaa.KvI
open Go.RowKit Kv
attribute [local go_sem ↓] Kit.execOp_call_slot
attribute [local go_sem] Kit.callSlot_func

section
variable {B G R D : Nat} {F : Nat → Prop} {w w' : World} {s : PSt Int}
theorem apart_open (h : Apart K enc B G w s F) (hi : Inv s) (hB : B ≤ w.heap.size) (hF : ∀ k, F k → k < w.heap.size) : Calls Try.prog 14 #[.pointer (some ⟨G, 0, none⟩)] w fun e w' =>
    e = .returned (.tuple #[.int .i64 (s.open_ [] 0).2.1, .int .i64 (s.open_ [] 0).2.2]) ∧ Apart K enc B G w' (s.open_ [] 0).1 F ∧ Below B w w' ∧ ∀ k, F k → w'.heap[k]? = w.heap[k]? := by
  obtain ⟨ρ, L, a, rfl, c, d⟩ := h
  exact (open_any a hi).mono fun e w' ⟨h1, h2⟩ => ⟨h1, Apart.step hF hB ⟨ρ, L, rfl, c, d, h2⟩⟩
theorem apart_share (h : Apart K enc B G w s F) (hi : Inv s) (hB : B ≤ w.heap.size) (hF : ∀ k, F k → k < w.heap.size) (id n : Int) : Calls Try.prog 17 #[.pointer (some ⟨G, 0, none⟩), .int .i64 id, .int .i64 n] w fun e w' =>
    e = .returned (.tuple #[.int .i64 (s.share id n).2.1, .int .i64 (s.share id n).2.2]) ∧ Apart K enc B G w' (s.share id n).1 F ∧ Below B w w' ∧ ∀ k, F k → w'.heap[k]? = w.heap[k]? := by
  obtain ⟨ρ, L, a, rfl, c, d⟩ := h
  exact (share_any a hi id n).mono fun e w' ⟨h1, h2⟩ => ⟨h1, Apart.step hF hB ⟨ρ, L, rfl, c, d, h2⟩⟩
theorem apart_close (h : Apart K enc B G w s F) (hi : Inv s) (hB : B ≤ w.heap.size) (hF : ∀ k, F k → k < w.heap.size) (id : Int) : Calls Try.prog 12 #[.pointer (some ⟨G, 0, none⟩), .int .i64 id] w fun e w' =>
    e = .returned (.int .i64 (s.close id).2) ∧ Apart K enc B G w' (s.close id).1 F ∧ Below B w w' ∧ ∀ k, F k → w'.heap[k]? = w.heap[k]? := by
  obtain ⟨ρ, L, a, rfl, c, d⟩ := h
  exact (close_any a hi id).mono fun e w' ⟨h1, h2⟩ => ⟨h1, Apart.step hF hB ⟨ρ, L, rfl, c, d, h2⟩⟩
theorem apart_get (h : Apart K enc B G w s F) (hi : Inv s) (id i : Int) : Calls Try.prog 22 #[.pointer (some ⟨G, 0, none⟩), .int .i64 id, .int .i64 i] w fun e w' =>
    e = .returned (.tuple #[.int .i64 (s.get 0 id i).1, .int .i64 (s.get 0 id i).2]) ∧ ∃ m, w' = w.drewN m := by
  obtain ⟨ρ, L, a, rfl, c, d⟩ := h
  exact get_any a hi id i
theorem ref_right (W : World) (id : Int) (c0 : W.cell? ⟨R, 0, none⟩ = some (.slice none 0 0)) : Calls Try.prog 38 #[.pointer (some ⟨R, 0, none⟩), .int .i64 id] W fun e w' => e = .returned (.bool false) ∧ W = w' := by
  by_cases h : 0 ≤ id
  · have h1 : ¬ id < 0 := by omega
    go_enter Try.func38, Try.ntmps38
    go_wp2_with fail
    go_ret
    exact ⟨rfl, rfl⟩
  · have h1 : id < 0 := by omega
    go_enter Try.func38, Try.ntmps38
    go_wp2_with fail
    go_ret
    exact ⟨rfl, rfl⟩
theorem ref_append (W : World) (id x : Int) (c0 : W.cell? ⟨R, 0, none⟩ = some (.slice none 0 0)) : Calls Try.prog 35 #[.pointer (some ⟨R, 0, none⟩), .int .i64 id, .int .i64 x] W fun e w' => e = .returned (.int .i64 14) ∧ W = w' := by
  have HC := Lib.hid (ref_right W id c0)
  go_enter Try.func35, Try.ntmps35
  go_wp2_with fail
  with_reducible refine Calls.mono HC.out ?_
  rintro e w1 ⟨rfl, rfl⟩
  go_wp2_with fail
  go_ret
  exact ⟨rfl, rfl⟩
theorem ref_share (W : World) (id n : Int) (c0 : W.cell? ⟨R, 0, none⟩ = some (.slice none 0 0)) : Calls Try.prog 36 #[.pointer (some ⟨R, 0, none⟩), .int .i64 id, .int .i64 n] W fun e w' => e = .returned (.tuple #[.int .i64 0, .int .i64 14]) ∧ W = w' := by
  have HC := Lib.hid (ref_right W id c0)
  go_enter Try.func36, Try.ntmps36
  go_wp2_with fail
  with_reducible refine Calls.mono HC.out ?_
  rintro e w1 ⟨rfl, rfl⟩
  go_wp2_with fail
  go_ret2
  exact ⟨rfl, rfl⟩
theorem ref_close (W : World) (id : Int) (c0 : W.cell? ⟨R, 0, none⟩ = some (.slice none 0 0)) : Calls Try.prog 37 #[.pointer (some ⟨R, 0, none⟩), .int .i64 id] W fun e w' => e = .returned (.int .i64 14) ∧ W = w' := by
  have HC := Lib.hid (ref_right W id c0)
  go_enter Try.func37, Try.ntmps37
  go_wp2_with fail
  with_reducible refine Calls.mono HC.out ?_
  rintro e w1 ⟨rfl, rfl⟩
  go_wp2_with fail
  go_ret
  exact ⟨rfl, rfl⟩
end
end Go.Proofs.Ytackjeckafoojaa.KvI
