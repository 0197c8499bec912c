/- A pool of things of type int: the inner calls, walked. -/
import Derived.Test.YtackjeckafoojaaProg
import Derived.Test.YtackjeckafoojaaKvOps
import Derived.Test.YtackjeckafoojaaKit
import Derived.KernelRfl
import Derived.BigQuiet
import Derived.BigGuardPart
import Derived.Deep.QuietTactic
import Derived.Deep.RegionHeld3
import Derived.Deep.LoopGhost
import Derived.Lib.Hide
import Derived.Lib.SliceRun
import Derived.WalkSpells
import Derived.Outline
namespace Go.Proofs.Ytackjeckafoojaa.KvI
open Go.RowKit Kv
attribute [local go_sem ↓] Kit.execOp_call_slot
attribute [local go_sem] Kit.callSlot_func

abbrev K : KT := ⟨70, 80, 3, 78, 3⟩
abbrev enc : Int → Value := (fun x : Int => (.int .i64 x : Value))
theorem enc_one (x : Int) : (enc x).oneCell' = true := rfl
theorem infoE : (Try.prog.info? 3).map (fun i => (i.zero, i.size, i.bytes)) = some (some (.int .i64 0), 1, 8) := by kernel_rfl
theorem infoP : (Try.prog.info? 3).map (fun i => (i.zero, i.size, i.bytes)) = some (some (.int .i64 0), 1, 8) := by kernel_rfl

/-- slices.Clone of a row: a row of its own. -/
structure Cloned (W W' : World) (v' : Value) (n : Nat) (xs : List Value) : Prop where
  own : W'.ownsRow W.heap.size 3 1 v' n xs
  below : Below W.heap.size W W'
def ClonePost (W : World) (n : Nat) (xs : List Value) (e : Ending) (W' : World) : Prop := ∃ v', e = .returned v' ∧ Cloned W W' v' n xs

set_option maxRecDepth 100000 in
theorem clone_nil (W : World) : Calls Try.prog 44 #[.slice none 0 0] W fun e W' => e = .returned (.slice none 0 0) ∧ W = W' := by
  have qT : ∀ (w : World) (a : Option Addr) (n c n' c' : Nat), (binOp .eql 42 (.slice a n c) (.slice none n' c')).run Try.prog w = .ok (.bool a.isNone) w := fun w a n c n' c' => Lib.run_eql_slice_nil w _ _ a n c n' c' Try.underlying42
  go_enter Try.func44, Try.ntmps44
  go_wp2_with fail
  go_ret
  exact ⟨rfl, rfl⟩

set_option maxRecDepth 100000 in
set_option maxHeartbeats 1000000 in
theorem clone_some (W : World) (g n cap : Nat) (xs : List Value) (hxs : xs.length = n) (h : ∀ j x, xs[j]? = some x → W.cell? ⟨g, j, none⟩ = some x) (h1 : ∀ u ∈ xs, u.oneCell' = true) (hn : n ≤ 1000000) : Calls Try.prog 44 #[.slice (some ⟨g, 0, none⟩) n cap] W (ClonePost W n xs) := by
  have qT : ∀ (w : World) (a : Option Addr) (n c n' c' : Nat), (binOp .eql 42 (.slice a n c) (.slice none n' c')).run Try.prog w = .ok (.bool a.isNone) w := fun w a n c n' c' => Lib.run_eql_slice_nil w _ _ a n c n' c' Try.underlying42
  obtain ⟨i0, hi, hz0, hz1, hz2⟩ := info_parts infoE
  have HI := Lib.hid (And.intro hi (And.intro hz0 (And.intro hz1 hz2)))
  have hlit : (W.alloc (.cells #[] 3)).ownsRow W.heap.size 3 1 (.slice (some ⟨W.heap.size, 0, none⟩) 0 0) 0 [] := by
    have := World.ownsRow_lit (e := 3) (size := 1) (base := W.heap.size) W #[] 0 (Nat.le_refl _) (by unfold maxLen; omega) rfl
    simpa using this
  have hcell : ∀ j u, xs[j]? = some u → (W.alloc (.cells #[] 3)).cell? ((⟨g, 0, none⟩ : Addr).add j) = some u := by
    intro j u hu
    have hc := h j u hu
    have e : (⟨g, 0, none⟩ : Addr).add j = ⟨g, j, none⟩ := by unfold Addr.add; split <;> simp_all
    rw [e, World.cell?_alloc_lt _ _ _ (block_lt_of_cell hc)]
    exact hc
  have HX := Lib.hid (And.intro hxs (And.intro hlit (And.intro hcell h1)))
  clear hi hz0 hz1 hz2 hxs hlit hcell h1 h
  go_enter Try.func44, Try.ntmps44
  go_wp2_with (at_builtin; refine wpList_append_own_at _ (by rfl) (.tmp 5) (.tmp 6) 42 (by rfl) W.heap.size 3 i0 _ 1 8 Try.underlying42 HI.out.1 HI.out.2.1 HI.out.2.2.1 HI.out.2.2.2 (by rfl) (by decide) _ 0 [] (by rfl) HX.out.2.1 ⟨g, 0, none⟩ n cap xs (by rfl) (by rw [HX.out.1, Nat.mul_one]) HX.out.2.2.1 HX.out.2.2.2 (by unfold maxLen; omega) (by omega) (by simp) ?_; intro v' w1 hown hgrow _ hat; simp only [Nat.zero_add, List.nil_append] at hown; have HO := Lib.hid (And.intro hown hgrow); clear hown hgrow hat)
  go_ret
  refine ⟨_, rfl, HO.out.1, ?_⟩
  exact ((Below.refl _ _).alloc (Nat.le_refl _) _).grown HO.out.2 (by simp) (fun k e => by simp [Value.ownBlock] at e; omega)

theorem clone_any (W : World) (b0 : Nat) (v : Value) (n : Nat) (xs : List Value) (h : W.ownsRow b0 3 1 v n xs) (h1 : ∀ u ∈ xs, u.oneCell' = true) (hn : n ≤ 1000000) : Calls Try.prog 44 #[v] W (ClonePost W n xs) := by
  rcases h.2 with ⟨rfl, h0⟩ | ⟨g, cap, cur, rfl, _⟩
  · subst h0
    have : xs = [] := List.eq_nil_of_length_eq_zero (by simpa using h.1)
    subst this
    exact (clone_nil W).mono fun e W' ⟨he, hw⟩ => ⟨_, he, World.ownsRow_nil _ _ _ _, by rw [hw]; exact Below.refl _ _⟩
  · refine clone_some W g n cap xs (by have := h.1; omega) (fun j x hx => ?_) h1 hn
    have := h.cells (g := g) rfl j x hx
    rw [← this]
    congr 1
    unfold Addr.add
    split <;> simp_all

variable {W : World} {ρ : Nat → Option Role} {L : Lay} {s : PSt Int}

theorem lookup_run (h : PoolAt K enc W ρ L s) (id : Int) : (Instr.lookup 68 (.map (some L.mb)) (.int .i64 id) true).run Try.prog W = .ok (.tuple #[if (s.find id).isSome then .pointer (some ⟨L.rb id.toNat, 0, none⟩) else .pointer none, .bool (s.find id).isSome]) W := by
  have hz : (zeroValue 74).run Try.prog W = .ok (.pointer none) W := by kernel_rfl
  have := IMap.run_lookup (P := Try.prog) W 68 3 74 (.pointer none) Try.underlying68 Try.underlying3 hz h.map id
  rw [this]
  have hf := findF_rows (openIds s.rows) L.rb id 0
  have hm : (0 ≤ id ∧ id.toNat ∈ openIds s.rows) ↔ (s.find id).isSome = true := by
    unfold PSt.find
    by_cases h0 : 0 ≤ id
    · rw [if_pos h0, openIds_mem, Option.isSome_iff_exists]; simp [h0]
    · rw [if_neg h0]; simp [h0]
  by_cases hs : (s.find id).isSome = true
  · rw [if_pos (hm.2 hs)] at hf
    rw [hf, if_pos hs]
    have : (IMap.findF ((openIds s.rows).map fun id : Nat => ((id : Int), (.pointer (some ⟨L.rb id, 0, none⟩) : Value))) id 0).isSome = true := by
      cases hc : IMap.findF ((openIds s.rows).map fun id : Nat => ((id : Int), (.pointer (some ⟨L.rb id, 0, none⟩) : Value))) id 0 with
      | none => rw [hc] at hf; simp at hf
      | some p => rfl
    rw [this, hs]
    rfl
  · rw [if_neg (fun h => hs (hm.1 h))] at hf
    have : IMap.findF ((openIds s.rows).map fun id : Nat => ((id : Int), (.pointer (some ⟨L.rb id, 0, none⟩) : Value))) id 0 = none := by
      cases hc : IMap.findF ((openIds s.rows).map fun id : Nat => ((id : Int), (.pointer (some ⟨L.rb id, 0, none⟩) : Value))) id 0 with
      | none => rfl
      | some p => rw [hc] at hf; simp at hf
    rw [this]
    simp only [Bool.not_eq_true] at hs
    rw [hs]
    rfl

/-- find. -/
theorem find_any (h : PoolAt K enc W ρ L s) (id : Int) : Calls Try.prog 39 #[.pointer (some ⟨L.g, 0, none⟩), .int .i64 id] W fun e w' =>
    e = .returned (.tuple #[if (s.find id).isSome then .pointer (some ⟨L.rb id.toNat, 0, none⟩) else .pointer none, .int .i64 (if (s.find id).isSome then 0 else 14)]) ∧ W = w' := by
  have hl := lookup_run h id
  obtain ⟨c0, c1, c2, c3⟩ := h.cells
  cases hs : (s.find id).isSome with
  | true =>
    rw [hs] at hl
    simp only [if_true] at hl ⊢
    have HS := Lib.hid hs
    clear hs h
    go_enter Try.func39, Try.ntmps39
    go_wp2_with fail
    go_ret2
    exact ⟨rfl, rfl⟩
  | false =>
    rw [hs] at hl
    simp only [Bool.false_eq_true, if_false] at hl ⊢
    have HS := Lib.hid hs
    clear hs h
    go_enter Try.func39, Try.ntmps39
    go_wp2_with fail
    go_ret2
    exact ⟨rfl, rfl⟩
end Go.Proofs.Ytackjeckafoojaa.KvI
