/- The codec in plain Lean: pieces with their lengths ahead, numbers of eight bytes. -/
set_option linter.unusedVariables false
set_option linter.unusedSimpArgs false
namespace Go.Proofs.Ytfhaebaegkpkhaa.Cod
def len4 (n : Nat) : List Nat := [n / 16777216 % 256, n / 65536 % 256, n / 256 % 256, n % 256]
def joinB (ls : List (List Nat)) : List Nat := (ls.map fun p => len4 p.length ++ p).flatten
/-- The byte of a number that stands for 256 to the power k. -/
def byteAt (n : Int) (k : Nat) : Nat := (n / 2 ^ (8 * k) % 256).toNat
def num8 (n : Int) : List Nat := (List.range 8).map fun i => byteAt n (7 - i)
def numsB (l : List Int) : List Nat := (l.map num8).flatten
theorem len4_length (n : Nat) : (len4 n).length = 4 := rfl
theorem len4_byte (n : Nat) : ∀ x ∈ len4 n, x < 256 := fun x hx => by
  simp only [len4, List.mem_cons, List.not_mem_nil, or_false] at hx
  rcases hx with rfl | rfl | rfl | rfl <;> omega
theorem byteAt_lt (n : Int) (k : Nat) : byteAt n k < 256 := by
  unfold byteAt
  have h1 := Int.emod_nonneg (n / 2 ^ (8 * k)) (show (256 : Int) ≠ 0 by omega)
  have h2 := Int.emod_lt_of_pos (n / 2 ^ (8 * k)) (show (0 : Int) < 256 by omega)
  omega
theorem num8_length (n : Int) : (num8 n).length = 8 := by simp [num8]
theorem num8_byte (n : Int) : ∀ x ∈ num8 n, x < 256 := fun x hx => by
  unfold num8 at hx
  obtain ⟨k, -, rfl⟩ := List.mem_map.1 hx
  exact byteAt_lt _ _
theorem numsB_length : ∀ (l : List Int), (numsB l).length = 8 * l.length
  | [] => rfl
  | n :: l => by
    have h := numsB_length l
    unfold numsB at h ⊢
    simp only [List.map_cons, List.flatten_cons, List.length_append, num8_length, h, List.length_cons]
    omega
theorem numsB_byte (l : List Int) : ∀ x ∈ numsB l, x < 256 := fun x hx => by
  obtain ⟨p, hp, hx⟩ := List.mem_flatten.1 hx
  obtain ⟨n, -, rfl⟩ := List.mem_map.1 hp
  exact num8_byte n x hx
theorem joinB_cons (p : List Nat) (ls : List (List Nat)) : joinB (p :: ls) = len4 p.length ++ p ++ joinB ls := by simp [joinB]
theorem joinB_byte {ls : List (List Nat)} (h : ∀ l ∈ ls, ∀ x ∈ l, x < 256) : ∀ x ∈ joinB ls, x < 256 := fun x hx => by
  obtain ⟨p, hp, hx⟩ := List.mem_flatten.1 hx
  obtain ⟨n, hn, rfl⟩ := List.mem_map.1 hp
  rcases List.mem_append.1 hx with hx | hx
  · exact len4_byte _ x hx
  · exact h n hn x hx
theorem joinB_length : ∀ (ls : List (List Nat)), (joinB ls).length = 4 * ls.length + (ls.map List.length).sum
  | [] => rfl
  | p :: ls => by
    rw [joinB_cons, List.length_append, List.length_append, joinB_length ls, len4_length, List.length_cons, List.map_cons, List.sum_cons]
    omega
/-- A byte of a number of 64 bits without sign. -/
theorem byte_u64 (n : Int) (k : Nat) (hk : k < 8) : (n % 18446744073709551616) / 2 ^ (8 * k) % 256 = (byteAt n k : Int) := by
  unfold byteAt
  have h1 := Int.emod_nonneg (n / 2 ^ (8 * k)) (show (256 : Int) ≠ 0 by omega)
  rw [Int.toNat_of_nonneg h1]
  match k, hk with
  | 0, _ => simp only [Nat.mul_zero, Int.pow_zero]; omega
  | 1, _ => show (n % 18446744073709551616) / 256 % 256 = n / 256 % 256; omega
  | 2, _ => show (n % 18446744073709551616) / 65536 % 256 = n / 65536 % 256; omega
  | 3, _ => show (n % 18446744073709551616) / 16777216 % 256 = n / 16777216 % 256; omega
  | 4, _ => show (n % 18446744073709551616) / 4294967296 % 256 = n / 4294967296 % 256; omega
  | 5, _ => show (n % 18446744073709551616) / 1099511627776 % 256 = n / 1099511627776 % 256; omega
  | 6, _ => show (n % 18446744073709551616) / 281474976710656 % 256 = n / 281474976710656 % 256; omega
  | 7, _ => show (n % 18446744073709551616) / 72057594037927936 % 256 = n / 72057594037927936 % 256; omega
end Go.Proofs.Ytfhaebaegkpkhaa.Cod
