/- A pool of things of type byte: the calls that read. -/
import Derived.Test.YtackjeckafoojaaKvBF
import Derived.Test.YtackjeckafoojaaKvI
namespace Go.Proofs.Ytackjeckafoojaa.KvB
open Go.RowKit Kv
attribute [local go_sem ↓] Kit.execOp_call_slot
attribute [local go_sem] Kit.callSlot_func
variable {W : World} {ρ : Nat → Option Role} {L : Lay} {s : PSt Int}
theorem find_row {id : Int} {r : List Nat × Nat} (hf : s.find id = some r) : 0 ≤ id ∧ s.row id.toNat = some r := by
  unfold PSt.find at hf
  split at hf
  · exact ⟨by assumption, hf⟩
  · simp at hf
/-- Pages. -/
structure PagesOut (W : World) (ps : List Nat) (v : Value) (W' : World) : Prop where
  own : W'.ownsRow W.heap.size 3 1 v ps.length (ints ps)
  below : Below W.heap.size W W'
def PagesPost (W : World) (ps : List Nat) (e : Ending) (W' : World) : Prop := ∃ v, e = .returned v ∧ PagesOut W ps v W'
theorem pages_none (h : PoolAt K enc W ρ L s) {id : Int} (hf : s.find id = none) : Calls Try.prog 33 #[.pointer (some ⟨L.g, 0, none⟩), .int .i64 id] W fun e w' => e = .returned (.slice none 0 0) ∧ W = w' := by
  have hc := find_any h id
  rw [hf] at hc
  simp only [Option.isSome_none, Bool.false_eq_true, if_false] at hc
  have HC := Lib.hid hc
  clear hc h hf
  go_enter Try.func33, Try.ntmps33
  go_wp2_with fail
  with_reducible refine Calls.mono HC.out ?_
  rintro e w1 ⟨rfl, rfl⟩
  go_wp2_with fail
  go_ret
  exact ⟨rfl, rfl⟩
theorem pages_some (h : PoolAt K enc W ρ L s) {id : Int} {ps : List Nat} {n : Nat} (hf : s.find id = some (ps, n)) (hps : ps.length ≤ 1000) : Calls Try.prog 33 #[.pointer (some ⟨L.g, 0, none⟩), .int .i64 id] W (PagesPost W ps) := by
  have hc := find_any h id
  rw [hf] at hc
  simp only [Option.isSome_some, if_true] at hc
  obtain ⟨r0, r1⟩ := h.rowCell (find_row hf).2
  have HC := Lib.hid (And.intro hc (h.row _ _ _ (find_row hf).2).2)
  clear hc h hf r1
  go_enter Try.func33, Try.ntmps33
  go_wp2_with fail
  with_reducible refine Calls.mono HC.out.1 ?_
  rintro e w1 ⟨rfl, rfl⟩
  go_wp2_with fail
  with_reducible refine Calls.mono (KvI.clone_any W 0 _ ps.length (ints ps) HC.out.2 (by intro u hu; obtain ⟨x, _, rfl⟩ := List.mem_map.1 hu; exact KvI.enc_one _) (by omega)) ?_
  rintro e w2 ⟨v', rfl, hcl⟩
  go_wp2_with fail
  go_ret
  exact ⟨v', rfl, hcl.own, hcl.below⟩
theorem pages_any (h : PoolAt K enc W ρ L s) (id : Int) (hps : ∀ ps n, s.find id = some (ps, n) → ps.length ≤ 1000) : Calls Try.prog 33 #[.pointer (some ⟨L.g, 0, none⟩), .int .i64 id] W (PagesPost W (((s.find id).map (·.1)).getD [])) := by
  cases hf : s.find id with
  | none => exact (pages_none h hf).mono fun e w ⟨h1, h2⟩ => ⟨_, h1, World.ownsRow_nil _ _ _ _, by rw [h2]; exact Below.refl _ _⟩
  | some r => obtain ⟨ps, n⟩ := r; exact pages_some h hf (hps ps n hf)
end Go.Proofs.Ytackjeckafoojaa.KvB
