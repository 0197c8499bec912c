/- The reference's sha: Power, turned, three. -/
import Derived.Test.YtplcjgpmainbnaaDoorShF
set_option linter.unusedVariables false
set_option linter.unusedSimpArgs false
namespace Go.Proofs.YtplcjgpmainbnaaDoor.RsW
open Go.RowKit Sha Bits OwnS ShaW
theorem ofInt_64 (a : Nat) (ha : a < 4294967296) : (BitVec.ofInt 64 (a : Int)).toNat = a := by
  rw [BitVec.ofInt_natCast, BitVec.toNat_ofNat]; exact Nat.mod_eq_of_lt (by omega)
theorem wrap_small (n : Nat) (h : n < 4294967296) : IntKind.i64.wrap (n : Int) = (n : Int) := by
  simp [IntKind.wrap, IntKind.bits, IntKind.signed]
  omega
theorem xor64 (a b : Nat) (ha : a < 4294967296) (hb : b < 4294967296) : bits .xor .i64 (a : Int) (b : Int) = ((a ^^^ b : Nat) : Int) := by
  have hx : a ^^^ b < 2 ^ 32 := Nat.xor_lt_two_pow (by omega) (by omega)
  show IntKind.i64.wrap ((BitVec.ofInt 64 (a : Int) ^^^ BitVec.ofInt 64 (b : Int)).toNat : Int) = _
  rw [BitVec.toNat_xor, ofInt_64 a ha, ofInt_64 b hb, wrap_small _ (by omega)]
theorem and64 (a b : Nat) (ha : a < 4294967296) (hb : b < 4294967296) : bits .and .i64 (a : Int) (b : Int) = ((a &&& b : Nat) : Int) := by
  have hx : a &&& b < 2 ^ 32 := Nat.and_lt_two_pow _ (by omega)
  show IntKind.i64.wrap ((BitVec.ofInt 64 (a : Int) &&& BitVec.ofInt 64 (b : Int)).toNat : Int) = _
  rw [BitVec.toNat_and, ofInt_64 a ha, ofInt_64 b hb, wrap_small _ (by omega)]
theorem turnedN_lt (x k : Nat) : turnedN x k < 4294967296 := Nat.mod_lt _ (by omega)
theorem three_lt (x a b c : Nat) (d : Bool) (hx : x < 4294967296) : three x a b c d < 4294967296 := by
  unfold three
  have h1 := turnedN_lt x a
  have h2 := turnedN_lt x b
  have h3 : (if d then x / 2 ^ c else turnedN x c) < 4294967296 := by
    split
    · exact Nat.lt_of_le_of_lt (Nat.div_le_self _ _) hx
    · exact turnedN_lt x c
  exact Nat.xor_lt_two_pow (n := 32) (Nat.xor_lt_two_pow (n := 32) h1 h2) h3
theorem Power_any (W : World) (k : Nat) (hk : k ≤ 60) : Calls Tryd.prog 52 #[.int .i64 (k : Int)] W fun e w' => e = .returned (.int .i64 ((2 ^ k : Nat) : Int)) ∧ W = w' := by
  go_enter Tryd.func52, Tryd.ntmps52
  go_wp2_with fail
  go_loop [3, 4] (fun vn vi => ∃ i p : Nat, i ≤ k ∧ vi = .int .i64 i ∧ vn = .int .i64 p ∧ Hid (p = 2 ^ i)) (fun _ vi => k - (intOf vi).toNat)
  case atStart => exact ⟨0, 1, Nat.zero_le _, rfl, rfl, Lib.hid rfl⟩
  case round =>
    obtain ⟨i, p, hi, rfl, rfl, hp⟩ := hrel
    have hp1 : p ≤ 2 ^ 60 := by rw [hp.out]; exact Nat.pow_le_pow_right (by omega) (by omega)
    have hp2 : (p : Int) ≤ 1152921504606846976 := by have : (2 : Nat) ^ 60 = 1152921504606846976 := rfl; omega
    clear hp1
    have hp3 : (0 : Int) ≤ (p : Int) := by omega
    by_cases hlt : i < k
    · have hltI : (i : Int) < (k : Int) := by omega
      go_wp2_with fail
      go_round
      case rel => exact ⟨i + 1, p * 2, by omega, by go_num, by go_num, Lib.hid (by rw [hp.out, Nat.pow_succ])⟩
      case measure => simp [intOf]; omega
    · obtain rfl : i = k := by omega
      go_wp2_with fail
      go_ret
      exact ⟨by rw [show (2 : Int) ^ i = ((p : Nat) : Int) by rw [hp.out, Int.natCast_pow]; rfl]; rfl, rfl⟩
def turnKs : List Nat := [2, 3, 6, 7, 10, 11, 13, 17, 18, 19, 22, 25]
theorem turned_num (x k : Nat) (a b : Int) (ha : a = ((2 ^ k : Nat) : Int)) (hb : b = ((2 ^ (32 - k) : Nat) : Int)) : ((x : Int) / a + (x : Int) * b) % 4294967296 = ((turnedN x k : Nat) : Int) := by
  subst ha hb
  unfold turnedN
  rw [Int.natCast_emod, Int.natCast_add, Int.natCast_ediv, Int.natCast_mul]
  rfl
set_option maxHeartbeats 2000000 in
theorem turned_any (x : Nat) (i : Int) (k : Nat) (hx : x < 4294967296) (h : i = k ∧ k ∈ turnKs) (W : World) : Calls Tryd.prog 62 #[.int .i64 (x : Int), .int .i64 i] W fun e w' => e = .returned (.int .i64 ((turnedN x k : Nat) : Int)) ∧ ∃ n, w' = W.drewN n := by
  obtain ⟨rfl, h⟩ := h
  have h0 : (0 : Int) ≤ (x : Int) := by omega
  have h1 : (x : Int) ≤ 4294967295 := by omega
  simp only [turnKs, List.mem_cons, List.not_mem_nil, or_false] at h
  rcases h with rfl | rfl | rfl | rfl | rfl | rfl | rfl | rfl | rfl | rfl | rfl | rfl
  all_goals
    go_enter Tryd.func62, Tryd.ntmps62
    go_wp2_with fail
    go_quiet (fail)
    go_wp2_with fail
    go_ret
    refine ⟨congrArg (fun z => Ending.returned (.int .i64 z)) ?_, _, rfl⟩
    exact turned_num x _ _ _ (by decide) (by decide)
theorem turned_i (x : Nat) (i : Int) (hx : x < 4294967296) (h : i ∈ ([2, 3, 6, 7, 10, 11, 13, 17, 18, 19, 22, 25] : List Int)) (W : World) : Calls Tryd.prog 62 #[.int .i64 (x : Int), .int .i64 i] W fun e w' => e = .returned (.int .i64 ((turnedN x i.toNat : Nat) : Int)) ∧ ∃ n, w' = W.drewN n := by
  refine turned_any x i i.toNat hx ?_ W
  simp only [List.mem_cons, List.not_mem_nil, or_false] at h
  rcases h with rfl | rfl | rfl | rfl | rfl | rfl | rfl | rfl | rfl | rfl | rfl | rfl <;> decide
theorem three_num (x a b : Nat) (t c1 c2 : Int) (l : Nat) (hx : x < 4294967296) (h1 : c1 = ((turnedN x a : Nat) : Int)) (h2 : c2 = ((turnedN x b : Nat) : Int)) (ht : t = (l : Int)) (hl : l < 4294967296) : bits .xor .i64 (bits .xor .i64 c1 c2) t = ((turnedN x a ^^^ turnedN x b ^^^ l : Nat) : Int) := by
  subst h1 h2 ht
  have k1 := turnedN_lt x a
  have k2 := turnedN_lt x b
  rw [xor64 _ _ k1 k2, xor64 _ _ (Nat.xor_lt_two_pow (n := 32) k1 k2) hl]
abbrev Turns (a : Int) : Prop := a ∈ ([2, 3, 6, 7, 10, 11, 13, 17, 18, 19, 22, 25] : List Int)
set_option maxRecDepth 100000 in
set_option maxHeartbeats 2000000 in
theorem three_no (x : Nat) (a b c : Int) (hx : x < 4294967296) (ha : Turns a) (hb : Turns b) (hc : Turns c) (W : World) : Calls Tryd.prog 59 #[.int .i64 (x : Int), .agg #[.int .i64 a, .int .i64 b, .int .i64 c], .bool false] W fun e w' => e = .returned (.int .i64 ((three x a.toNat b.toNat c.toNat false : Nat) : Int)) ∧ Below W.heap.size W w' := by
    have h0 : (0 : Int) ≤ (x : Int) := by omega
    have h1 : (x : Int) ≤ 4294967295 := by omega
    have HX := Lib.hid hx
    have HM := Lib.hid (And.intro ha (And.intro hb hc))
    clear hx ha hb hc
    have cell : ∀ (w : World) (j : Nat) (v : Value), (#[.int .i64 a, .int .i64 b, .int .i64 c] : Array Value)[j]? = some v → Below (W.heap.size + 1) (W.alloc (.cells #[.int .i64 a, .int .i64 b, .int .i64 c] 100)) w → w.cell? ⟨W.heap.size, j, none⟩ = some v := fun w j v hv hw => by
      rw [cell_of_row _ _ j _ _ _ ((hw.block _ (by omega)).trans (heap_alloc_new W _))]
      exact hv
    have HC := Lib.hid cell
    clear cell
    go_enter Tryd.func59, Tryd.ntmps59
    go_upto_region 4 with (go_at_call 62; (with_reducible refine Calls.mono (turned_i x _ HX.out HM.out.2.2 _) ?_); rintro e w' ⟨rfl, n, rfl⟩)
    change Code.wp _ _ _ _ (World.drewN (W.alloc (.cells #[.int .i64 a, .int .i64 b, .int .i64 c] 100)) n)
    obtain ⟨w1, hw1⟩ : ∃ w1, w1 = World.drewN (W.alloc (.cells #[.int .i64 a, .int .i64 b, .int .i64 c] 100)) n := ⟨_, rfl⟩
    rw [← hw1]
    have hb0 : Below W.heap.size W (W.alloc (.cells #[.int .i64 a, .int .i64 b, .int .i64 c] 100)) := (Below.refl _ _).alloc (Nat.le_refl _) _
    have hb : Below W.heap.size W w1 := by rw [hw1]; exact ⟨hb0.os, hb0.tape, hb0.output, hb0.size, hb0.block⟩
    have hb1 : Below (W.heap.size + 1) (W.alloc (.cells #[.int .i64 a, .int .i64 b, .int .i64 c] 100)) w1 := by rw [hw1]; exact ⟨rfl, rfl, rfl, Nat.le_refl _, fun _ _ => rfl⟩
    have d0 := HC.out w1 0 _ rfl hb1
    have d1 := HC.out w1 1 _ rfl hb1
    have HB := Lib.hid hb
    clear hb hb0 hb1 hw1
    go_quiet (exact Calls.quiet_of (turned_i x _ HX.out (by first | exact HM.out.1 | exact HM.out.2.1) _))
    go_wp2_with fail
    go_ret
    have hbb := HB.out
    exact ⟨congrArg (fun z => Ending.returned (.int .i64 z)) (three_num x _ _ _ _ _ _ HX.out rfl rfl rfl (turnedN_lt x c.toNat)), ⟨hbb.os, hbb.tape, hbb.output, hbb.size, hbb.block⟩⟩
set_option maxRecDepth 100000 in
set_option maxHeartbeats 2000000 in
theorem three_yes (x : Nat) (a b c : Int) (hx : x < 4294967296) (ha : Turns a) (hb : Turns b) (hc3 : c = 3 ∨ c = 10) (W : World) : Calls Tryd.prog 59 #[.int .i64 (x : Int), .agg #[.int .i64 a, .int .i64 b, .int .i64 c], .bool true] W fun e w' => e = .returned (.int .i64 ((three x a.toNat b.toNat c.toNat true : Nat) : Int)) ∧ Below W.heap.size W w' := by
    have h0 : (0 : Int) ≤ (x : Int) := by omega
    have h1 : (x : Int) ≤ 4294967295 := by omega
    have HX := Lib.hid hx
    have hc : Turns c := by rcases hc3 with rfl | rfl <;> decide
    have HM := Lib.hid (And.intro ha (And.intro hb hc))
    clear hx ha hb hc
    rcases hc3 with rfl | rfl
    · have cell : ∀ (w : World) (j : Nat) (v : Value), (#[.int .i64 a, .int .i64 b, .int .i64 3] : Array Value)[j]? = some v → Below (W.heap.size + 1) (W.alloc (.cells #[.int .i64 a, .int .i64 b, .int .i64 3] 100)) w → w.cell? ⟨W.heap.size, j, none⟩ = some v := fun w j v hv hw => by
        rw [cell_of_row _ _ j _ _ _ ((hw.block _ (by omega)).trans (heap_alloc_new W _))]
        exact hv
      have HC := Lib.hid cell
      clear cell
      go_enter Tryd.func59, Tryd.ntmps59
      go_upto_region 4 with (go_at_call 62; (with_reducible refine Calls.mono (turned_i x _ HX.out HM.out.2.2 _) ?_); rintro e w' ⟨rfl, n, rfl⟩)
      change Code.wp _ _ _ _ (World.drewN (W.alloc (.cells #[.int .i64 a, .int .i64 b, .int .i64 3] 100)) n)
      obtain ⟨w1, hw1⟩ : ∃ w1, w1 = World.drewN (W.alloc (.cells #[.int .i64 a, .int .i64 b, .int .i64 3] 100)) n := ⟨_, rfl⟩
      rw [← hw1]
      have hb0 : Below W.heap.size W (W.alloc (.cells #[.int .i64 a, .int .i64 b, .int .i64 3] 100)) := (Below.refl _ _).alloc (Nat.le_refl _) _
      have hb : Below W.heap.size W w1 := by rw [hw1]; exact ⟨hb0.os, hb0.tape, hb0.output, hb0.size, hb0.block⟩
      have hb1 : Below (W.heap.size + 1) (W.alloc (.cells #[.int .i64 a, .int .i64 b, .int .i64 3] 100)) w1 := by rw [hw1]; exact ⟨rfl, rfl, rfl, Nat.le_refl _, fun _ _ => rfl⟩
      have d0 := HC.out w1 0 _ rfl hb1
      have d1 := HC.out w1 1 _ rfl hb1
      have HB := Lib.hid hb
      clear hb hb0 hb1 hw1
      go_quiet (exact Calls.quiet_of (turned_i x _ HX.out (by first | exact HM.out.1 | exact HM.out.2.1) _))
      go_wp2_with fail
      go_ret
      have hbb := HB.out
      exact ⟨congrArg (fun z => Ending.returned (.int .i64 z)) (three_num x _ _ _ _ _ _ HX.out rfl rfl (show (x : Int) / 8 = ((x / 2 ^ 3 : Nat) : Int) by rw [Int.natCast_ediv]; rfl) (Nat.lt_of_le_of_lt (Nat.div_le_self x (2 ^ 3)) HX.out)), ⟨hbb.os, hbb.tape, hbb.output, hbb.size, hbb.block⟩⟩
    · have cell : ∀ (w : World) (j : Nat) (v : Value), (#[.int .i64 a, .int .i64 b, .int .i64 10] : Array Value)[j]? = some v → Below (W.heap.size + 1) (W.alloc (.cells #[.int .i64 a, .int .i64 b, .int .i64 10] 100)) w → w.cell? ⟨W.heap.size, j, none⟩ = some v := fun w j v hv hw => by
        rw [cell_of_row _ _ j _ _ _ ((hw.block _ (by omega)).trans (heap_alloc_new W _))]
        exact hv
      have HC := Lib.hid cell
      clear cell
      go_enter Tryd.func59, Tryd.ntmps59
      go_upto_region 4 with (go_at_call 62; (with_reducible refine Calls.mono (turned_i x _ HX.out HM.out.2.2 _) ?_); rintro e w' ⟨rfl, n, rfl⟩)
      change Code.wp _ _ _ _ (World.drewN (W.alloc (.cells #[.int .i64 a, .int .i64 b, .int .i64 10] 100)) n)
      obtain ⟨w1, hw1⟩ : ∃ w1, w1 = World.drewN (W.alloc (.cells #[.int .i64 a, .int .i64 b, .int .i64 10] 100)) n := ⟨_, rfl⟩
      rw [← hw1]
      have hb0 : Below W.heap.size W (W.alloc (.cells #[.int .i64 a, .int .i64 b, .int .i64 10] 100)) := (Below.refl _ _).alloc (Nat.le_refl _) _
      have hb : Below W.heap.size W w1 := by rw [hw1]; exact ⟨hb0.os, hb0.tape, hb0.output, hb0.size, hb0.block⟩
      have hb1 : Below (W.heap.size + 1) (W.alloc (.cells #[.int .i64 a, .int .i64 b, .int .i64 10] 100)) w1 := by rw [hw1]; exact ⟨rfl, rfl, rfl, Nat.le_refl _, fun _ _ => rfl⟩
      have d0 := HC.out w1 0 _ rfl hb1
      have d1 := HC.out w1 1 _ rfl hb1
      have HB := Lib.hid hb
      clear hb hb0 hb1 hw1
      go_quiet (exact Calls.quiet_of (turned_i x _ HX.out (by first | exact HM.out.1 | exact HM.out.2.1) _))
      go_wp2_with fail
      go_ret
      have hbb := HB.out
      exact ⟨congrArg (fun z => Ending.returned (.int .i64 z)) (three_num x _ _ _ _ _ _ HX.out rfl rfl (show (x : Int) / 1024 = ((x / 2 ^ 10 : Nat) : Int) by rw [Int.natCast_ediv]; rfl) (Nat.lt_of_le_of_lt (Nat.div_le_self x (2 ^ 10)) HX.out)), ⟨hbb.os, hbb.tape, hbb.output, hbb.size, hbb.block⟩⟩
end Go.Proofs.YtplcjgpmainbnaaDoor.RsW
