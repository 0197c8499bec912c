/- A pool of things of type byte: the calls, told of a pool that is held. -/
import Derived.Test.YtackjeckafoojaaKvBA
import Derived.Test.YtackjeckafoojaaKvBN
import Derived.Test.YtackjeckafoojaaKvBC
import Derived.Test.YtackjeckafoojaaKvInts
import Derived.Test.YtackjeckafoojaaKvInv
import Derived.Test.YtackjeckafoojaaKvHeld
namespace Go.Proofs.Ytackjeckafoojaa.KvB
open Go.RowKit Kv
variable {w0 w : World} {ρ0 : Nat → Option Role} {G : Nat} {s : PSt Int}

theorem _root_.Go.Proofs.Ytackjeckafoojaa.Kv.Held.open_B (h : Held K enc w0 ρ0 G w s) (hi : Inv s) : Calls Try.prog 29 #[.pointer (some ⟨G, 0, none⟩)] w fun e w' =>
    e = .returned (.tuple #[.int .i64 (s.open_ [] 0).2.1, .int .i64 (s.open_ [] 0).2.2]) ∧ Held K enc w0 ρ0 G w' (s.open_ [] 0).1 := by
  obtain ⟨ρ, L, hP, rfl, hF⟩ := h
  exact (open_any hP hi).mono fun e w' ⟨h1, h2⟩ => ⟨h1, Held.step rfl hF h2⟩
theorem _root_.Go.Proofs.Ytackjeckafoojaa.Kv.Held.append_B (h : Held K enc w0 ρ0 G w s) (hi : Inv s) (id : Int) (x : Int) : Calls Try.prog 30 #[.pointer (some ⟨G, 0, none⟩), .int .i64 id, enc x] w fun e w' =>
    e = .returned (.int .i64 (s.append id x).2) ∧ Held K enc w0 ρ0 G w' (s.append id x).1 := by
  obtain ⟨ρ, L, hP, rfl, hF⟩ := h
  exact (append_any hP hi id x).mono fun e w' ⟨h1, h2⟩ => ⟨h1, Held.step rfl hF h2⟩

theorem _root_.Go.Proofs.Ytackjeckafoojaa.Kv.Held.share_B (h : Held K enc w0 ρ0 G w s) (hi : Inv s) (id n : Int) : Calls Try.prog 31 #[.pointer (some ⟨G, 0, none⟩), .int .i64 id, .int .i64 n] w fun e w' =>
    e = .returned (.tuple #[.int .i64 (s.share id n).2.1, .int .i64 (s.share id n).2.2]) ∧ Held K enc w0 ρ0 G w' (s.share id n).1 := by
  obtain ⟨ρ, L, hP, rfl, hF⟩ := h
  exact (share_any hP hi id n).mono fun e w' ⟨h1, h2⟩ => ⟨h1, Held.step rfl hF h2⟩
theorem _root_.Go.Proofs.Ytackjeckafoojaa.Kv.Held.close_B (h : Held K enc w0 ρ0 G w s) (hi : Inv s) (id : Int) : Calls Try.prog 32 #[.pointer (some ⟨G, 0, none⟩), .int .i64 id] w fun e w' =>
    e = .returned (.int .i64 (s.close id).2) ∧ Held K enc w0 ρ0 G w' (s.close id).1 := by
  obtain ⟨ρ, L, hP, rfl, hF⟩ := h
  exact (close_any hP hi id).mono fun e w' ⟨h1, h2⟩ => ⟨h1, Held.step rfl hF h2⟩
/-- What Pages hands back. -/
def HPages_B (w0 : World) (ρ0 : Nat → Option Role) (G : Nat) (s : PSt Int) (l : List Nat) (W : World) (e : Ending) (w' : World) : Prop := ∃ v, e = .returned v ∧ RdI w' v (l.map fun p : Nat => (p : Int)) ∧ Below W.heap.size W w' ∧ Held K enc w0 ρ0 G w' s
theorem _root_.Go.Proofs.Ytackjeckafoojaa.Kv.Held.pages_B (h : Held K enc w0 ρ0 G w s) (hi : Inv s) (id : Int) : Calls Try.prog 33 #[.pointer (some ⟨G, 0, none⟩), .int .i64 id] w (HPages_B w0 ρ0 G s (((s.find id).map (·.1)).getD []) w) := by
  have h0 := h
  obtain ⟨ρ, L, hP, rfl, hF⟩ := h
  refine (pages_any hP id ?_).mono fun e w' ⟨v, h1, h2⟩ => ⟨v, h1, RdI.of_own (e := 3) (base := w.heap.size) ?_, h2.below, h0.below h2.below⟩
  · intro ps n hf
    have := hi.ps_len (find_row hf).2
    omega
  · have h3 := h2.own
    rw [List.length_map]
    have e1 : ((((s.find id).map (·.1)).getD []).map fun p : Nat => (p : Int)).map encI = ints (((s.find id).map (·.1)).getD []) := by
      rw [List.map_map]; rfl
    rw [e1]
    exact h3
end Go.Proofs.Ytackjeckafoojaa.KvB
