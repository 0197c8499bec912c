/- A pool of things of type int: a new one, a row opened. -/
import Derived.Test.YtackjeckafoojaaKvIO
namespace Go.Proofs.Ytackjeckafoojaa.KvI
open Go.RowKit Kv
attribute [local go_sem ↓] Kit.execOp_call_slot
attribute [local go_sem] Kit.callSlot_func
variable {W : World} {ρ : Nat → Option Role} {L : Lay} {s : PSt Int}

theorem infoG : (Try.prog.info? 80).map (fun i => (i.zero, i.size, i.bytes)) = some (some (.agg #[.slice none 0 0, .int .i64 0]), 2, 32) := by kernel_rfl
theorem new_bad (W : World) (p z : Int) (h : p < 1 ∨ 256 < p ∨ z < 1 ∨ 64 < z) : Calls Try.prog 10 #[.int .i64 p, .int .i64 z] W fun e w' => e = .returned (.tuple #[.pointer none, .int .i64 13]) ∧ W = w' := by
  by_cases h1 : p < 1
  · clear h
    go_enter Try.func10, Try.ntmps10
    go_wp2_with fail
    go_ret2
    exact ⟨rfl, rfl⟩
  · have h1' : (1 : Int) ≤ p := by omega
    by_cases h2 : 256 < p
    · clear h
      go_enter Try.func10, Try.ntmps10
      go_wp2_with fail
      go_ret2
      exact ⟨rfl, rfl⟩
    · have h2' : p ≤ 256 := by omega
      by_cases h3 : z < 1
      · clear h
        go_enter Try.func10, Try.ntmps10
        go_wp2_with fail
        go_ret2
        exact ⟨rfl, rfl⟩
      · have h3' : (1 : Int) ≤ z := by omega
        have h4 : 64 < z := by omega
        clear h
        go_enter Try.func10, Try.ntmps10
        go_wp2_with fail
        go_ret2
        exact ⟨rfl, rfl⟩
theorem new_good (W : World) (p z : Nat) (hp : 1 ≤ p ∧ p ≤ 256) (hz : 1 ≤ z ∧ z ≤ 64) : Calls Try.prog 10 #[.int .i64 (p : Int), .int .i64 (z : Int)] W fun e w' => e = .returned (.tuple #[.pointer (some ⟨W.heap.size + 2, 0, none⟩), .int .i64 0]) ∧ w' = freshW K W p z := by
  obtain ⟨i0, hi, hz0, hz1, hz2⟩ := info_parts infoG
  have hmk : ∀ w : World, (Instr.makeSlice 67 (.int .i64 (p : Int)) (.int .i64 (p : Int))).run Try.prog w = .ok (.slice (some ⟨w.heap.size, 0, none⟩) p p) (w.alloc (.cells (madeCells #[.slice none 0 0, .int .i64 0] (p * 2)) 80)) := fun w => by
    have := run_make (P := Try.prog) w 67 80 i0 _ Try.underlying67 hi hz0 .i64 .i64 p p (by omega) (by omega) (by rw [hz2]; omega) (by omega)
    rw [hz1] at this
    simpa [Value.cells] using this
  have hmm : ∀ w : World, (Instr.makeMap 68 none).run Try.prog w = .ok (.map (some w.heap.size)) (w.alloc (.map #[] 0)) := fun w => rfl
  have a1 : ¬ (p : Int) < 1 := by omega
  have a2 : ¬ 256 < (p : Int) := by omega
  have a3 : ¬ (z : Int) < 1 := by omega
  have a4 : ¬ 64 < (z : Int) := by omega
  have b1 : 1 ≤ (p : Int) := by omega
  have b2 : (p : Int) ≤ 256 := by omega
  have b3 : 1 ≤ (z : Int) := by omega
  have b4 : (z : Int) ≤ 64 := by omega
  clear hi hz0 hz1 hz2 hp hz
  go_enter Try.func10, Try.ntmps10
  go_wp2_with fail
  go_ret2
  exact ⟨rfl, rfl⟩

/-- What 'open' leaves, told of the world ahead of the row's making. -/
theorem Opened.step {W1 W' : World} {b : Nat} {v : Value} {ps : List Nat} {n : Nat} {ρ' : Nat → Option Role} {L' : Lay} (h : Opened W1 (clip W ρ) L s b v ps n W' ρ' L') (hb : Below W.heap.size W W1) (hbb : W.heap.size ≤ b) (hv : ∀ g, v.ownBlock = some g → W.heap.size ≤ g) :
    Step K enc W ρ L { incAll s ps with rows := s.rows ++ [some (ps, n)] } W' := by
  refine ⟨ρ', L', h.pool, h.g, h.os.trans hb.os, h.tape.trans hb.tape, h.output.trans hb.output, Nat.le_trans hb.size h.size, fun k hk hr => ?_⟩
  obtain ⟨h1, h2⟩ := h.block k (Nat.lt_of_lt_of_le hk hb.size) ((clip_lt hk).trans hr) (by omega) (fun e => by have := hv _ e; omega)
  exact ⟨h1.trans (hb.block k hk), h2⟩

theorem nil_open (h : PoolAt K enc W ρ L s) (hnp : s.pages.length ≤ 256) (hcnt : ∀ i, 0 ≤ s.cnt i ∧ s.cnt i ≤ 100000) (hm : s.rows.length < 1024) : Calls Try.prog 14 #[.pointer (some ⟨L.g, 0, none⟩)] W fun e w' =>
    e = .returned (.tuple #[.int .i64 (s.rows.length : Int), .int .i64 0]) ∧ Step K enc W ρ L { s with rows := s.rows ++ [some ([], 0)] } w' := by
  have hb : Below W.heap.size W (W.alloc (.cells #[.slice none 0 0, .int .i64 0] 78)) := (Below.refl _ _).alloc (Nat.le_refl _) _
  have hc := open_some (h.clip.below hb) W.heap.size (.slice none 0 0) [] 0 (by exact heap_alloc_new _ _) (World.ownsRow_nil _ _ _ _) (clip_ge (Nat.le_refl _)) (by intro g hg; simp [Value.ownBlock] at hg) (by simp) (by simp) hcnt hnp hm
  have HC := Lib.hid (And.intro hc hb)
  clear hc hb h hcnt
  go_enter Try.func14, Try.ntmps14
  go_wp2_with fail
  with_reducible refine Calls.mono HC.out.1 ?_
  rintro e w1 ⟨rfl, ρ', L', hO⟩
  have HO := Lib.hid hO
  clear hO
  go_wp2_with fail
  go_ret2
  exact ⟨rfl, HO.out.step HC.out.2 (Nat.le_refl _) (by intro g hg; simp [Value.ownBlock] at hg)⟩
theorem full_open (h : PoolAt K enc W ρ L s) (hm : s.rows.length = 1024) : Calls Try.prog 14 #[.pointer (some ⟨L.g, 0, none⟩)] W fun e w' => e = .returned (.tuple #[.int .i64 0, .int .i64 16]) ∧ Step K enc W ρ L s w' := by
  have hb : Below W.heap.size W (W.alloc (.cells #[.slice none 0 0, .int .i64 0] 78)) := (Below.refl _ _).alloc (Nat.le_refl _) _
  have HC := Lib.hid (And.intro (open_full (h.below hb) W.heap.size hm) (Step.below h hb))
  clear h hb
  go_enter Try.func14, Try.ntmps14
  go_wp2_with fail
  with_reducible refine Calls.mono HC.out.1 ?_
  rintro e w1 ⟨rfl, rfl⟩
  go_wp2_with fail
  go_ret2
  exact ⟨rfl, HC.out.2⟩
theorem open_any (h : PoolAt K enc W ρ L s) (hi : Inv s) : Calls Try.prog 14 #[.pointer (some ⟨L.g, 0, none⟩)] W fun e w' =>
    e = .returned (.tuple #[.int .i64 (s.open_ [] 0).2.1, .int .i64 (s.open_ [] 0).2.2]) ∧ Step K enc W ρ L (s.open_ [] 0).1 w' := by
  unfold PSt.open_
  by_cases hm : s.rows.length = 1024
  · rw [if_pos hm]; exact full_open h hm
  · rw [if_neg hm]
    exact nil_open h hi.np.2 (fun i => ⟨(hi.cnt_bound i).1, by have := (hi.cnt_bound i).2; omega⟩) (by have := hi.many; omega)
end Go.Proofs.Ytackjeckafoojaa.KvI
