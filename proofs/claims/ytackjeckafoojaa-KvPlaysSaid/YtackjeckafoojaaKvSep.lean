/- A pool beside slices that are none of its. -/
import Derived.Test.YtackjeckafoojaaKvRow
import Derived.Test.YtackjeckafoojaaKvSh1
namespace Go.Proofs.Ytackjeckafoojaa.Kv
open Go.RowKit
variable {α : Type} {K : KT} {enc : α → Value} {w w' : World} {ρ : Nat → Option Role} {L : Lay} {s : PSt α}

/-- A block that no role names grew: the pool is as it was. -/
theorem PoolAt.grew (h : PoolAt K enc w ρ L s) {w0 w1 : World} {blk : Option Nat} (hb : Below w.heap.size w w0) (hg : w0.grownBy w1 blk) (hn : ∀ g, blk = some g → ρ g = none) : PoolAt K enc w1 (Kv.clip w ρ) L s := by
  refine h.clip.keep fun b r hr _ hlt => ?_
  rw [clip_lt hlt] at hr
  refine (hg.block b (Nat.lt_of_lt_of_le hlt hb.size) ?_).trans (hb.block b hlt)
  intro e
  have := hn b e.symm
  rw [hr] at this
  cases this
/-- A pool, and blocks that are none of its. -/
structure Apart (K : KT) (enc : α → Value) (B : Nat) (G : Nat) (w : World) (s : PSt α) (F : Nat → Prop) : Prop where
  ex : ∃ ρ L, PoolAt K enc w ρ L s ∧ L.g = G ∧ (∀ k, k < B → ρ k = none) ∧ ∀ k, F k → ρ k = none
theorem Apart.of_held {w0 : World} {ρ0 : Nat → Option Role} {G B : Nat} (h : Held K enc w0 ρ0 G w s) (hB : B ≤ w0.heap.size) (h0 : ∀ k, k < B → ρ0 k = none) : Apart K enc B G w s (fun _ => False) := by
  obtain ⟨ρ, L, a, b, c⟩ := h
  exact ⟨ρ, L, a, b, fun k hk => (c.block k (Nat.lt_of_lt_of_le hk hB) (h0 k hk)).2, fun k hk => hk.elim⟩
/-- A call of the pool. -/
theorem Apart.step {B G : Nat} {F : Nat → Prop} {s' : PSt α} (hF : ∀ k, F k → k < w.heap.size) (hB : B ≤ w.heap.size)
    (h : ∃ ρ L, L.g = G ∧ (∀ k, k < B → ρ k = none) ∧ (∀ k, F k → ρ k = none) ∧ Step K enc w ρ L s' w') : Apart K enc B G w' s' F ∧ Below B w w' ∧ ∀ k, F k → w'.heap[k]? = w.heap[k]? := by
  obtain ⟨ρ, L, hg, h0, h1, ρ', L', a, b, c⟩ := h
  refine ⟨⟨ρ', L', a, b.trans hg, fun k hk => (c.block k (Nat.lt_of_lt_of_le hk hB) (h0 k hk)).2, fun k hk => (c.block k (hF k hk) (h1 k hk)).2⟩, ⟨c.os, c.tape, c.output, c.size, fun k hk => (c.block k (Nat.lt_of_lt_of_le hk hB) (h0 k hk)).1⟩, fun k hk => (c.block k (hF k hk) (h1 k hk)).1⟩
theorem Apart.grew {B G : Nat} {F : Nat → Prop} (h : Apart K enc B G w s F) (hB : B ≤ w.heap.size) (hF : ∀ k, F k → k < w.heap.size) {w0 w1 : World} {blk : Option Nat} (hb : Below w.heap.size w w0) (hg : w0.grownBy w1 blk) (hn : ∀ g, blk = some g → F g) :
    Apart K enc B G w1 s (fun k => F k ∨ w.heap.size ≤ k) := by
  obtain ⟨ρ, L, a, b, c, d⟩ := h
  refine ⟨Kv.clip w ρ, L, a.grew hb hg (fun g e => d g (hn g e)), b, fun k hk => (clip_lt (by omega)).trans (c k hk), fun k hk => ?_⟩
  rcases hk with hk | hk
  · exact (clip_lt (hF k hk)).trans (d k hk)
  · exact clip_ge hk
theorem Apart.below {B G : Nat} {F : Nat → Prop} (h : Apart K enc B G w s F) (hb : Below w.heap.size w w') : Apart K enc B G w' s F := by
  obtain ⟨ρ, L, a, b, c, d⟩ := h
  exact ⟨ρ, L, a.below hb, b, c, d⟩
theorem Apart.weaken {B G : Nat} {F F' : Nat → Prop} (h : Apart K enc B G w s F) (hF : ∀ k, F' k → F k) : Apart K enc B G w s F' := by
  obtain ⟨ρ, L, a, b, c, d⟩ := h
  exact ⟨ρ, L, a, b, c, fun k hk => d k (hF k hk)⟩
theorem Apart.none_ge {B G : Nat} {F : Nat → Prop} (h : Apart K enc B G w s F) (hB : B ≤ w.heap.size) (hF : ∀ k, F k → k < w.heap.size) : Apart K enc B G w s (fun k => F k ∨ w.heap.size ≤ k) := by
  obtain ⟨ρ, L, a, b, c, d⟩ := h
  refine ⟨Kv.clip w ρ, L, a.clip, b, fun k hk => (clip_lt (by omega)).trans (c k hk), fun k hk => ?_⟩
  rcases hk with hk | hk
  · exact (clip_lt (hF k hk)).trans (d k hk)
  · exact clip_ge hk
end Go.Proofs.Ytackjeckafoojaa.Kv
namespace Go.Proofs.Ytackjeckafoojaa.KvI
open Go.RowKit Kv
theorem apart_append {B G : Nat} {F : Nat → Prop} {w : World} {s : PSt Int} (h : Apart K enc B G w s F) (hi : Inv s) (hB : B ≤ w.heap.size) (hF : ∀ k, F k → k < w.heap.size) (id x : Int) : Calls Try.prog 15 #[.pointer (some ⟨G, 0, none⟩), .int .i64 id, .int .i64 x] w fun e w' =>
    e = .returned (.int .i64 (s.append id x).2) ∧ Apart K enc B G w' (s.append id x).1 F ∧ Below B w w' ∧ ∀ k, F k → w'.heap[k]? = w.heap[k]? := by
  obtain ⟨ρ, L, a, rfl, c, d⟩ := h
  exact (append_any a hi id x).mono fun e w' ⟨h1, h2⟩ => ⟨h1, Apart.step hF hB ⟨ρ, L, rfl, c, d, h2⟩⟩
theorem apart_row {B G : Nat} {F : Nat → Prop} {w : World} {s : PSt Int} (h : Apart K enc B G w s F) (hi : Inv s) (id : Int) (hl : (s.all 0 id).length ≤ 2000) : Calls Try.prog 16 #[.pointer (some ⟨G, 0, none⟩), .int .i64 id] w (RowPost w (s.all 0 id)) := by
  obtain ⟨ρ, L, a, rfl, c, d⟩ := h
  exact row_run w _ id _ hl fun W' hb => all_any (a.below hb) hi id
theorem apart_free {B G : Nat} {F : Nat → Prop} {w : World} {s : PSt Int} (h : Apart K enc B G w s F) (hi : Inv s) : Calls Try.prog 13 #[.pointer (some ⟨G, 0, none⟩)] w fun e w' => e = .returned (.int .i64 (s.free : Int)) ∧ Below w.heap.size w w' := by
  obtain ⟨ρ, L, a, rfl, c, d⟩ := h
  exact freeN a hi.np.2
theorem held_free {G : Nat} {w0 w : World} {ρ0 : Nat → Option Role} {s : PSt Int} (h : Held K enc w0 ρ0 G w s) (hi : Inv s) : Calls Try.prog 13 #[.pointer (some ⟨G, 0, none⟩)] w fun e w' => e = .returned (.int .i64 (s.free : Int)) ∧ Below w.heap.size w w' := by
  obtain ⟨ρ, L, a, rfl, c⟩ := h
  exact freeN a hi.np.2
theorem held_row {G : Nat} {w0 w : World} {ρ0 : Nat → Option Role} {s : PSt Int} (h : Held K enc w0 ρ0 G w s) (hi : Inv s) (id : Int) (hl : (s.all 0 id).length ≤ 2000) : Calls Try.prog 16 #[.pointer (some ⟨G, 0, none⟩), .int .i64 id] w (RowPost w (s.all 0 id)) := by
  obtain ⟨ρ, L, a, rfl, c⟩ := h
  exact row_run w _ id _ hl fun W' hb => all_any (a.below hb) hi id
end Go.Proofs.Ytackjeckafoojaa.KvI
