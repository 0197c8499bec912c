/- A pool of things of type string: the calls that read. -/
import Derived.Test.YtackjeckafoojaaKvSF
import Derived.Test.YtackjeckafoojaaKvI
namespace Go.Proofs.Ytackjeckafoojaa.KvS
open Go.RowKit Kv
attribute [local go_sem ↓] Kit.execOp_call_slot
attribute [local go_sem] Kit.callSlot_func
variable {W : World} {ρ : Nat → Option Role} {L : Lay} {s : PSt ByteArray}

theorem find_row {id : Int} {r : List Nat × Nat} (hf : s.find id = some r) : 0 ≤ id ∧ s.row id.toNat = some r := by
  unfold PSt.find at hf
  split at hf
  · exact ⟨by assumption, hf⟩
  · simp at hf

theorem get_none (h : PoolAt K enc W ρ L s) {id : Int} (i : Int) (hf : s.find id = none) : Calls Try.prog 27 #[.pointer (some ⟨L.g, 0, none⟩), .int .i64 id, .int .i64 i] W fun e w' => e = .returned (.tuple #[.string ByteArray.empty, .int .i64 14]) ∧ W = w' := by
  have hc := find_any h id
  rw [hf] at hc
  simp only [Option.isSome_none, Bool.false_eq_true, if_false] at hc
  have HC := Lib.hid hc
  clear hc h hf
  go_enter Try.func27, Try.ntmps27
  go_wp2_with fail
  with_reducible refine Calls.mono HC.out ?_
  rintro e w1 ⟨rfl, rfl⟩
  go_wp2_with fail
  go_ret2
  exact ⟨rfl, rfl⟩
theorem get_out (h : PoolAt K enc W ρ L s) {id : Int} {ps : List Nat} {n : Nat} (i : Int) (hf : s.find id = some (ps, n)) (hi : i < 0 ∨ (n : Int) ≤ i) : Calls Try.prog 27 #[.pointer (some ⟨L.g, 0, none⟩), .int .i64 id, .int .i64 i] W fun e w' => e = .returned (.tuple #[.string ByteArray.empty, .int .i64 10]) ∧ W = w' := by
  have hc := find_any h id
  rw [hf] at hc
  simp only [Option.isSome_some, if_true] at hc
  obtain ⟨r0, r1⟩ := h.rowCell (find_row hf).2
  have HC := Lib.hid hc
  clear hc h hf r0
  by_cases h0 : i < 0
  · clear hi
    go_enter Try.func27, Try.ntmps27
    go_wp2_with fail
    with_reducible refine Calls.mono HC.out ?_
    rintro e w1 ⟨rfl, rfl⟩
    go_wp2_with fail
    go_ret2
    exact ⟨rfl, rfl⟩
  · have h1 : (n : Int) ≤ i := by omega
    clear hi
    go_enter Try.func27, Try.ntmps27
    go_wp2_with fail
    with_reducible refine Calls.mono HC.out ?_
    rintro e w1 ⟨rfl, rfl⟩
    go_wp2_with fail
    go_ret2
    exact ⟨rfl, rfl⟩
set_option maxRecDepth 100000 in
theorem get_in (h : PoolAt K enc W ρ L s) {id : Int} {ps : List Nat} {n : Nat} (k : Nat) (hf : s.find id = some (ps, n)) (hk : k < n) (hn : n ≤ 16384) (hsz : 1 ≤ s.size ∧ s.size ≤ 64) (p : Nat) (hp : ps[k / s.size]? = some p) (hpl : p < s.pages.length) (x : ByteArray) (hx : (s.lst p)[k % s.size]? = some x) (hll : (s.lst p).length ≤ 64) (hpsl : ps.length ≤ 1000) (hnp : s.pages.length ≤ 256) :
    Calls Try.prog 27 #[.pointer (some ⟨L.g, 0, none⟩), .int .i64 id, .int .i64 (k : Int)] W fun e w' => e = .returned (.tuple #[enc x, .int .i64 0]) ∧ ∃ m, w' = W.drewN m := by
  have hc := find_any h id
  rw [hf] at hc
  simp only [Option.isSome_some, if_true] at hc
  obtain ⟨c0, c1, c2, c3⟩ := h.cells
  obtain ⟨r0, r1⟩ := h.rowCell (find_row hf).2
  have hrow := (h.row _ _ _ (find_row hf).2).2
  obtain ⟨hkl, hpe⟩ := List.getElem?_eq_some_iff.1 hp
  obtain ⟨g1, cap1, hpv, hg1, hc1⟩ := own_read hrow (Nat.lt_of_le_of_lt (Nat.zero_le _) hkl)
  rw [hpv] at r0
  have x0 : W.cell? ⟨g1, k / s.size, none⟩ = some (.int .i64 (p : Int)) := hc1 _ _ (by simp [ints, hp])
  obtain ⟨hml, hxe⟩ := List.getElem?_eq_some_iff.1 hx
  obtain ⟨p0, p1⟩ := h.pageCell p hpl
  obtain ⟨g2, cap2, hlv, hg2, hc2⟩ := own_read (h.page p hpl) (Nat.lt_of_le_of_lt (Nat.zero_le _) hml)
  rw [hlv] at p0
  have y0 : W.cell? ⟨g2, k % s.size, none⟩ = some (enc x) := hc2 _ _ (by simp [hx])
  have q1 : Int.tdiv (k : Int) (s.size : Int) = ((k / s.size : Nat) : Int) := rfl
  have q2 : Int.tmod (k : Int) (s.size : Int) = ((k % s.size : Nat) : Int) := rfl
  obtain ⟨a, ha⟩ : ∃ a, a = k / s.size := ⟨_, rfl⟩
  obtain ⟨b, hb⟩ : ∃ b, b = k % s.size := ⟨_, rfl⟩
  rw [← ha] at q1 x0 hkl
  rw [← hb] at q2 y0 hml
  have hz : (s.size : Int) ≠ 0 := by omega
  have hz0 : ((s.size : Int) == 0) = false := by simp; omega
  have i1 : (a : Int) < (ps.length : Int) := by omega
  have i2 : (b : Int) < ((s.lst p).length : Int) := by omega
  have i3 : (p : Int) < (s.pages.length : Int) := by omega
  have z1 : (0 : Int) ≤ (a : Int) := by omega
  have z2 : (0 : Int) ≤ (b : Int) := by omega
  have z3 : (0 : Int) ≤ (p : Int) := by omega
  have z4 : (0 : Int) ≤ (k : Int) := by omega
  have z5 : ¬ (k : Int) < 0 := by omega
  have z6 : ¬ (n : Int) ≤ (k : Int) := by omega
  have z7 : (k : Int) < (n : Int) := by omega
  have HC := Lib.hid hc
  clear hc h hf c2 c3 hc1 hc2 hrow hpv hlv hp hx hpe hxe hg1 hg2 hsz p1 ha hb
  go_enter Try.func27, Try.ntmps27
  go_wp2_with fail
  with_reducible refine Calls.mono HC.out ?_
  rintro e w1 ⟨rfl, rfl⟩
  go_wp2_with fail
  go_quiet (fail)
  go_wp2_with fail
  go_ret2
  exact ⟨rfl, _, rfl⟩
end Go.Proofs.Ytackjeckafoojaa.KvS
