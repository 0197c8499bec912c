/- A pool, told from one world on. -/
import Derived.Test.YtackjeckafoojaaKvOps
namespace Go.Proofs.Ytackjeckafoojaa.Kv
open Go Go.RowKit
variable {α : Type}
/-- A pool at G, told from the world w0 on. -/
def Held (K : KT) (enc : α → Value) (w0 : World) (ρ0 : Nat → Option Role) (G : Nat) (w : World) (s : PSt α) : Prop := ∃ ρ L, PoolAt K enc w ρ L s ∧ L.g = G ∧ Fr w0 ρ0 w ρ
section
variable {K : KT} {enc : α → Value} {w0 w w' : World} {ρ0 : Nat → Option Role} {G : Nat} {s s' : PSt α}
theorem Held.step {ρ : Nat → Option Role} {L : Lay} (hg : L.g = G) (hf : Fr w0 ρ0 w ρ) (h : Step K enc w ρ L s' w') : Held K enc w0 ρ0 G w' s' := by
  obtain ⟨ρ', L', a, b, c⟩ := h
  exact ⟨ρ', L', a, b.trans hg, hf.trans c⟩
theorem Held.below (h : Held K enc w0 ρ0 G w s) (hb : Below w.heap.size w w') : Held K enc w0 ρ0 G w' s := by
  obtain ⟨ρ, L, a, b, c⟩ := h
  exact ⟨ρ, L, a.below hb, b, c.trans (Fr.of_below hb)⟩
theorem Held.drewN (h : Held K enc w0 ρ0 G w s) (m : Nat) : Held K enc w0 ρ0 G (w.drewN m) s := h.below ⟨rfl, rfl, rfl, Nat.le_refl _, fun _ _ => rfl⟩
theorem Held.fresh (K : KT) (enc : α → Value) (W : World) (p z : Nat) : Held K enc (freshW K W p z) (freshR W.heap.size) (W.heap.size + 2) (freshW K W p z) (emptyP α p z) := ⟨_, _, PoolAt.fresh K enc W p z, rfl, Fr.refl _ _⟩
theorem Held.out {W : World} (h : Held K enc w0 ρ0 G w s) (hb : Below W.heap.size W w0) (hρ : ∀ k, k < W.heap.size → ρ0 k = none) : Below W.heap.size W w := by
  obtain ⟨ρ, L, a, b, c⟩ := h
  exact ⟨c.os.trans hb.os, c.tape.trans hb.tape, c.output.trans hb.output, Nat.le_trans hb.size c.size, fun k hk => (c.block k (Nat.lt_of_lt_of_le hk hb.size) (hρ k hk)).1.trans (hb.block k hk)⟩
theorem freshR_lt (n k : Nat) (h : k < n) : freshR n k = none := by
  unfold freshR
  rw [if_neg (by omega), if_neg (by omega), if_neg (by omega)]
end
end Go.Proofs.Ytackjeckafoojaa.Kv
