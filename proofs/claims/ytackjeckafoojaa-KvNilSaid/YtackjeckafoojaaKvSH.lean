/- A pool of things of type string: the calls, told of a pool that is held. -/
import Derived.Test.YtackjeckafoojaaKvSA
import Derived.Test.YtackjeckafoojaaKvSN

import Derived.Test.YtackjeckafoojaaKvInts
import Derived.Test.YtackjeckafoojaaKvInv
import Derived.Test.YtackjeckafoojaaKvHeld
namespace Go.Proofs.Ytackjeckafoojaa.KvS
open Go.RowKit Kv
variable {w0 w : World} {ρ0 : Nat → Option Role} {G : Nat} {s : PSt ByteArray}

theorem _root_.Go.Proofs.Ytackjeckafoojaa.Kv.Held.open_S (h : Held K enc w0 ρ0 G w s) (hi : Inv s) : Calls Try.prog 25 #[.pointer (some ⟨G, 0, none⟩)] w fun e w' =>
    e = .returned (.tuple #[.int .i64 (s.open_ [] 0).2.1, .int .i64 (s.open_ [] 0).2.2]) ∧ Held K enc w0 ρ0 G w' (s.open_ [] 0).1 := by
  obtain ⟨ρ, L, hP, rfl, hF⟩ := h
  exact (open_any hP hi).mono fun e w' ⟨h1, h2⟩ => ⟨h1, Held.step rfl hF h2⟩
theorem _root_.Go.Proofs.Ytackjeckafoojaa.Kv.Held.append_S (h : Held K enc w0 ρ0 G w s) (hi : Inv s) (id : Int) (x : ByteArray) : Calls Try.prog 26 #[.pointer (some ⟨G, 0, none⟩), .int .i64 id, enc x] w fun e w' =>
    e = .returned (.int .i64 (s.append id x).2) ∧ Held K enc w0 ρ0 G w' (s.append id x).1 := by
  obtain ⟨ρ, L, hP, rfl, hF⟩ := h
  exact (append_any hP hi id x).mono fun e w' ⟨h1, h2⟩ => ⟨h1, Held.step rfl hF h2⟩
end Go.Proofs.Ytackjeckafoojaa.KvS
