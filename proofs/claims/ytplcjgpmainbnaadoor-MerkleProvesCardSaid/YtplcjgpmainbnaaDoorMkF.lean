/- merkle.beside: the parts beside a leaf's way, one by one. -/
import Derived.Test.YtplcjgpmainbnaaDoorMkA
import Derived.Test.YtplcjgpmainbnaaDoorKeepS
set_option linter.unusedVariables false
set_option linter.unusedSimpArgs false
namespace Go.Proofs.YtplcjgpmainbnaaDoor.MkW
open Go.RowKit OwnS ShaW Go.Shelf SeqL
attribute [local go_sem] Oper.semAt_some
abbrev Part := Nat × Nat × Bool
def partV (p : Part) : Value := .agg #[.int .i64 (p.1 : Int), .int .i64 (p.2.1 : Int), .bool p.2.2]
def partsOf (n i : Nat) : List Part := Mk.parts n 0 n i
/-- A part of n, as it is; what is none: the empty one. -/
def fixP (n : Nat) (p : Part) : Part := if p.1 ≤ p.2.1 ∧ p.2.1 ≤ n then p else (0, 0, false)
theorem fixP_of {n : Nat} {p : Part} (h1 : p.1 ≤ p.2.1) (h2 : p.2.1 ≤ n) : fixP n p = p := if_pos ⟨h1, h2⟩
theorem fixP_le (n : Nat) (p : Part) : (fixP n p).1 ≤ (fixP n p).2.1 ∧ (fixP n p).2.1 ≤ n := by
  unfold fixP
  split
  · assumption
  · exact ⟨Nat.le_refl _, Nat.zero_le _⟩
theorem parts_le : ∀ (f a b i : Nat), a ≤ b → ∀ p ∈ Mk.parts f a b i, p.1 ≤ p.2.1 ∧ p.2.1 ≤ b
  | 0, _, _, _, _, p, h => by simp [Mk.parts] at h
  | f + 1, a, b, i, hab, p, h => by
    rw [Mk.parts] at h
    split at h
    · rename_i hb
      have g := Mk.half_lt (n := b - a) (by omega)
      simp only at h
      split at h
      · rcases List.mem_cons.1 h with rfl | h
        · exact ⟨by simp, by simp; omega⟩
        · exact parts_le f _ _ _ (by omega) p h
      · rcases List.mem_cons.1 h with rfl | h
        · exact ⟨by simp; omega, by simp⟩
        · have := parts_le f _ _ _ (by omega) p h
          exact ⟨this.1, by omega⟩
    · simp at h
theorem partsOf_fix {n i : Nat} : ∀ p ∈ partsOf n i, fixP n p = p := fun p hp => by
  have := parts_le _ _ _ _ (Nat.zero_le _) p hp
  exact fixP_of this.1 this.2
set_option maxRecDepth 100000 in
set_option maxHeartbeats 2000000 in
theorem beside1_in (m : Nat) (hm : 1 ≤ m) (n i : Nat) (hn : n ≤ 9223372036854775807) (hin : i < n) (l qn qi : Nat) (S : Nat → Prop) (hqi : S qi) (J Jx : List Part → World → Prop)
    (hY : ∀ pre x W, J pre W → pre.length < (partsOf n i).length → YieldAt Fence.wide (m - 1) Tryd.prog l #[partV (fixP n x)] W fun e W' =>
      (e = .returned (.bool true) ∧ J (pre ++ [x]) W' ∧ KeepS S W W') ∨ (e = .returned (.bool false) ∧ Jx (pre ++ [x]) W'))
    (hJ : ∀ pre W W2, J pre W → W.grownBy W2 none → J pre W2)
    (W : World) (cn : W.cell? ⟨qn, 0, none⟩ = some (.int .i64 (n : Int))) (ci : W.cell? ⟨qi, 0, none⟩ = some (.int .i64 (i : Int))) (h0 : J [] W) (hS : ∀ k, S k → k < W.heap.size) :
    CallsIn Fence.wide m Tryd.prog 57 #[.func (.yield l) #[] #[], .pointer (some ⟨qn, 0, none⟩), .pointer (some ⟨qi, 0, none⟩)] W fun e W' => (∃ v, e = .returned v) ∧
      (J (partsOf n i) W' ∨ (∃ pre, pre <+: partsOf n i ∧ Jx pre W')) := by
  refine callsIn_of_wp Tryd.func57 rfl trivial ?_ rfl
  simp only [Tryd.ntmps57, List.size_toArray, List.length_cons, List.length_nil, Nat.reduceAdd, Nat.reduceSub, Array.replicate_succ, Array.replicate_zero, List.push_toArray, List.append_toArray, List.nil_append, List.cons_append]
  gi_wp2
  gi_quiet (fail)
  gi_wp2
  have hn' : (n : Int) ≤ 9223372036854775807 := by omega
  gi_loopw [4, 5] (fun va vb wr => ∃ (f a b : Nat) (pre : List Part), va = .int .i64 a ∧ vb = .int .i64 b ∧ a ≤ b ∧ b ≤ n ∧ Hid (b - a ≤ f ∧ partsOf n i = pre ++ Mk.parts f a b i) ∧ Hid (J pre wr ∧ KeepS S W wr))
    (fun va vb _ => (intOf vb - intOf va).toNat)
  case atStart => exact ⟨n, 0, n, [], rfl, rfl, Nat.zero_le _, Nat.le_refl _, Lib.hid ⟨by omega, rfl⟩, Lib.hid ⟨hJ _ _ _ h0 ⟨rfl, rfl, rfl, Nat.le_refl _, fun _ _ _ => rfl⟩, ⟨Nat.le_refl _, fun _ _ => rfl⟩⟩⟩
  case round =>
    obtain ⟨f, a, b, pre, rfl, rfl, hab, hbn, hp, hJk⟩ := hrel
    by_cases hlt : 1 < b - a
    · have h1 := Mk.half_pos (b - a)
      have h2 := Mk.half_lt (n := b - a) (by omega)
      obtain ⟨k, hk⟩ : ∃ k, k = Mk.half (b - a) := ⟨_, rfl⟩
      rw [← hk] at h1 h2
      have hh := half_any wr (b - a) (by omega)
      rw [← hk, show ((b - a : Nat) : Int) = (b : Int) - (a : Int) by omega] at hh
      have HH := Lib.hid (And.intro hh hk)
      clear hh hk
      have z1 : (1 : Int) < (b : Int) - (a : Int) := by omega
      have ci' : wr.cell? ⟨qi, 0, none⟩ = some (.int .i64 (i : Int)) := (World.cell?_of_block (a := ⟨qi, 0, none⟩) (hJk.out.2.same qi hqi)).trans ci
      have ciA := fun o => (World.cell?_alloc_lt wr o ⟨qi, 0, none⟩ (block_lt_of_cell ci')).trans ci'
      obtain ⟨f', hf⟩ : ∃ f', f = f' + 1 := ⟨f - 1, by have := hp.out.1; omega⟩
      have hsplit : partsOf n i = pre ++ (if a + k ≤ i then (a, a + k, true) :: Mk.parts f' (a + k) b i else (a + k, b, false) :: Mk.parts f' a (a + k) i) := by
        rw [hp.out.2, hf]
        conv => lhs; rw [Mk.parts]
        rw [if_pos hlt, HH.out.2]
      have HF := Lib.hid (And.intro hf hsplit)
      clear hf hsplit
      have hcast : ((a + k : Nat) : Int) = (a : Int) + (k : Int) := by omega
      by_cases him : a + k ≤ i
      · have z2 : (a : Int) + (k : Int) ≤ (i : Int) := by omega
        have hJ1 : J pre (wr.alloc (.cells #[.int .i64 (a : Int), .int .i64 ((a : Int) + (k : Int)), .bool true] 73)) := hJ _ _ _ hJk.out.1 (World.grownBy_alloc _ _ _)
        have hB1 : KeepS S W (wr.alloc (.cells #[.int .i64 (a : Int), .int .i64 ((a : Int) + (k : Int)), .bool true] 73)) := hJk.out.2.alloc hS _
        have hyy := hY _ ((a, a + k, true)) _ hJ1 (by rw [HF.out.2, if_pos him]; simp)
        rw [fixP_of (by simp) (by simp; omega)] at hyy
        obtain ⟨fn, tmps, assign, body, hy, hR⟩ := hyy
        simp only [partV, hcast] at hy
        have HB := Lib.hid hB1
        clear hB1 hJ1
        gi_wp2
        refine ⟨trivial, ?_⟩
        with_reducible refine CallsIn.mono (callsIn_wide.2 HH.out.1) ?_
        rintro e w' ⟨rfl, rfl⟩
        gi_wp2
        refine hR.mono ?_
        rintro e W3 (⟨rfl, hJ3, hk3⟩ | ⟨rfl, hJx3⟩)
        · gi_wp2
          go_roundw
          case rel =>
            refine ⟨f', a + k, b, pre ++ [(a, a + k, true)], by simp, by simp, by omega, by omega, ?_, ⟨hJ3, HB.out.trans hk3⟩⟩
            refine ⟨by have := HF.out.1; have := hp.out.1; omega, ?_⟩
            rw [HF.out.2, if_pos him]
            simp
          case measure => simp [intOf]; omega
        · gi_wp2
          refine bodyPost_ret (results_none rfl _ _ _) rfl ?_
          refine ⟨⟨_, rfl⟩, .inr ⟨_, ?_, hJx3⟩⟩
          rw [HF.out.2, if_pos him]
          exact ⟨_, by simp; rfl⟩
      · have z2 : ¬ (a : Int) + (k : Int) ≤ (i : Int) := by omega
        have hJ1 : J pre (wr.alloc (.cells #[.int .i64 ((a : Int) + (k : Int)), .int .i64 (b : Int), .bool false] 73)) := hJ _ _ _ hJk.out.1 (World.grownBy_alloc _ _ _)
        have hB1 : KeepS S W (wr.alloc (.cells #[.int .i64 ((a : Int) + (k : Int)), .int .i64 (b : Int), .bool false] 73)) := hJk.out.2.alloc hS _
        have hyy := hY _ ((a + k, b, false)) _ hJ1 (by rw [HF.out.2, if_neg him]; simp)
        rw [fixP_of (by simp; omega) (by simp; omega)] at hyy
        obtain ⟨fn, tmps, assign, body, hy, hR⟩ := hyy
        simp only [partV, hcast] at hy
        have HB := Lib.hid hB1
        clear hB1 hJ1
        gi_wp2
        refine ⟨trivial, ?_⟩
        with_reducible refine CallsIn.mono (callsIn_wide.2 HH.out.1) ?_
        rintro e w' ⟨rfl, rfl⟩
        gi_wp2
        refine hR.mono ?_
        rintro e W3 (⟨rfl, hJ3, hk3⟩ | ⟨rfl, hJx3⟩)
        · gi_wp2
          go_roundw
          case rel =>
            refine ⟨f', a, a + k, pre ++ [(a + k, b, false)], by simp, by simp, by omega, by omega, ?_, ⟨hJ3, HB.out.trans hk3⟩⟩
            refine ⟨by have := HF.out.1; have := hp.out.1; omega, ?_⟩
            rw [HF.out.2, if_neg him]
            simp
          case measure => simp [intOf]; omega
        · gi_wp2
          refine bodyPost_ret (results_none rfl _ _ _) rfl ?_
          refine ⟨⟨_, rfl⟩, .inr ⟨_, ?_, hJx3⟩⟩
          rw [HF.out.2, if_neg him]
          exact ⟨_, by simp; rfl⟩
    · have hge : ¬ (1 : Int) < (b : Int) - (a : Int) := by omega
      have hend : partsOf n i = pre := by
        rw [hp.out.2]
        cases f with
        | zero => unfold Mk.parts; simp
        | succ f => unfold Mk.parts; rw [if_neg hlt]; simp
      have HE := Lib.hid hend
      clear hend
      gi_wp2
      go_end0
      exact ⟨⟨_, rfl⟩, .inl (by rw [HE.out]; exact hJk.out.1)⟩
theorem seq_beside (m : Nat) (hm : 1 ≤ m) (n i : Nat) (hn : n ≤ 9223372036854775807) (hin : i < n) (qn qi : Nat) (w : World) (cn : w.cell? ⟨qn, 0, none⟩ = some (.int .i64 (n : Int))) (ci : w.cell? ⟨qi, 0, none⟩ = some (.int .i64 (i : Int))) (S : Nat → Prop) (hqi : S qi) (hS : ∀ k, S k → k < w.heap.size) :
    SeqStopsK Fence.wide m Tryd.prog 57 #[.pointer (some ⟨qn, 0, none⟩), .pointer (some ⟨qi, 0, none⟩)] (fun x : Part => #[partV (fixP n x)]) (KeepS S) (fun ys => ys = partsOf n i) (fun pre => pre <+: partsOf n i) (partsOf n i).length w := by
  intro l J Jx W hW hA _ hY hJ0
  refine (beside1_in m hm n i hn hin l qn qi S hqi J Jx hY (fun pre W1 W2 hj hgr => hA pre W1 W2 none hj hgr (by simp)) W ((hW.cell (p := ⟨qn, 0, none⟩) (block_lt_of_cell cn)).trans cn) ((hW.cell (p := ⟨qi, 0, none⟩) (block_lt_of_cell ci)).trans ci) hJ0 (fun k hk => Nat.lt_of_lt_of_le (hS k hk) hW.size)).mono ?_
  rintro e W' ⟨he, h | h⟩
  · exact ⟨he, .inl ⟨_, rfl, h⟩⟩
  · exact ⟨he, .inr h⟩
theorem beside_any (W : World) (n i : Int) : Calls Tryd.prog 42 #[.int .i64 n, .int .i64 i] W fun e w' => e = .returned (.func (.func 57) #[] #[.pointer (some ⟨W.heap.size, 0, none⟩), .pointer (some ⟨W.heap.size + 1, 0, none⟩)]) ∧ w' = (W.alloc (.cells #[.int .i64 n] 3)).alloc (.cells #[.int .i64 i] 3) := by
  go_enter Tryd.func42, Tryd.ntmps42
  go_wp2_with fail
  go_ret
  exact ⟨rfl, rfl⟩
end Go.Proofs.YtplcjgpmainbnaaDoor.MkW
