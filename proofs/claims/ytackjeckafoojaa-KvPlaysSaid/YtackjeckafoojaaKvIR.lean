/- A pool of things of type int: the calls that read. -/
import Derived.Test.YtackjeckafoojaaKvIF

namespace Go.Proofs.Ytackjeckafoojaa.KvI
open Go.RowKit Kv
attribute [local go_sem ↓] Kit.execOp_call_slot
attribute [local go_sem] Kit.callSlot_func
variable {W : World} {ρ : Nat → Option Role} {L : Lay} {s : PSt Int}

theorem len_none (h : PoolAt K enc W ρ L s) {id : Int} (hf : s.find id = none) : Calls Try.prog 23 #[.pointer (some ⟨L.g, 0, none⟩), .int .i64 id] W fun e w' => e = .returned (.tuple #[.int .i64 0, .int .i64 14]) ∧ W = w' := by
  have hc := find_any h id
  rw [hf] at hc
  simp only [Option.isSome_none, Bool.false_eq_true, if_false] at hc
  have HC := Lib.hid hc
  clear hc h hf
  go_enter Try.func23, Try.ntmps23
  go_wp2_with fail
  with_reducible refine Calls.mono HC.out ?_
  rintro e w1 ⟨rfl, rfl⟩
  go_wp2_with fail
  go_ret2
  exact ⟨rfl, rfl⟩
theorem find_row {id : Int} {r : List Nat × Nat} (hf : s.find id = some r) : 0 ≤ id ∧ s.row id.toNat = some r := by
  unfold PSt.find at hf
  split at hf
  · exact ⟨by assumption, hf⟩
  · simp at hf
theorem len_some (h : PoolAt K enc W ρ L s) {id : Int} {ps : List Nat} {n : Nat} (hf : s.find id = some (ps, n)) : Calls Try.prog 23 #[.pointer (some ⟨L.g, 0, none⟩), .int .i64 id] W fun e w' => e = .returned (.tuple #[.int .i64 (n : Int), .int .i64 0]) ∧ W = w' := by
  have hc := find_any h id
  rw [hf] at hc
  simp only [Option.isSome_some, if_true] at hc
  obtain ⟨r0, r1⟩ := h.rowCell (find_row hf).2
  have HC := Lib.hid hc
  clear hc h hf r0
  go_enter Try.func23, Try.ntmps23
  go_wp2_with fail
  with_reducible refine Calls.mono HC.out ?_
  rintro e w1 ⟨rfl, rfl⟩
  go_wp2_with fail
  go_ret2
  exact ⟨rfl, rfl⟩

/-- Pages. -/
structure PagesOut (W : World) (ps : List Nat) (v : Value) (W' : World) : Prop where
  own : W'.ownsRow W.heap.size 3 1 v ps.length (ints ps)
  below : Below W.heap.size W W'
def PagesPost (W : World) (ps : List Nat) (e : Ending) (W' : World) : Prop := ∃ v, e = .returned v ∧ PagesOut W ps v W'
theorem pages_none (h : PoolAt K enc W ρ L s) {id : Int} (hf : s.find id = none) : Calls Try.prog 19 #[.pointer (some ⟨L.g, 0, none⟩), .int .i64 id] W fun e w' => e = .returned (.slice none 0 0) ∧ W = w' := by
  have hc := find_any h id
  rw [hf] at hc
  simp only [Option.isSome_none, Bool.false_eq_true, if_false] at hc
  have HC := Lib.hid hc
  clear hc h hf
  go_enter Try.func19, Try.ntmps19
  go_wp2_with fail
  with_reducible refine Calls.mono HC.out ?_
  rintro e w1 ⟨rfl, rfl⟩
  go_wp2_with fail
  go_ret
  exact ⟨rfl, rfl⟩
theorem pages_some (h : PoolAt K enc W ρ L s) {id : Int} {ps : List Nat} {n : Nat} (hf : s.find id = some (ps, n)) (hps : ps.length ≤ 1000) : Calls Try.prog 19 #[.pointer (some ⟨L.g, 0, none⟩), .int .i64 id] W (PagesPost W ps) := by
  have hc := find_any h id
  rw [hf] at hc
  simp only [Option.isSome_some, if_true] at hc
  obtain ⟨r0, r1⟩ := h.rowCell (find_row hf).2
  have HC := Lib.hid (And.intro hc (h.row _ _ _ (find_row hf).2).2)
  clear hc h hf r1
  go_enter Try.func19, Try.ntmps19
  go_wp2_with fail
  with_reducible refine Calls.mono HC.out.1 ?_
  rintro e w1 ⟨rfl, rfl⟩
  go_wp2_with fail
  with_reducible refine Calls.mono (clone_any W 0 _ ps.length (ints ps) HC.out.2 (by intro u hu; obtain ⟨x, _, rfl⟩ := List.mem_map.1 hu; exact enc_one _) (by omega)) ?_
  rintro e w2 ⟨v', rfl, hcl⟩
  go_wp2_with fail
  go_ret
  exact ⟨v', rfl, hcl.own, hcl.below⟩
theorem pages_any (h : PoolAt K enc W ρ L s) (id : Int) (hps : ∀ ps n, s.find id = some (ps, n) → ps.length ≤ 1000) : Calls Try.prog 19 #[.pointer (some ⟨L.g, 0, none⟩), .int .i64 id] W (PagesPost W (((s.find id).map (·.1)).getD [])) := by
  cases hf : s.find id with
  | none => exact (pages_none h hf).mono fun e w ⟨h1, h2⟩ => ⟨_, h1, World.ownsRow_nil _ _ _ _, by rw [h2]; exact Below.refl _ _⟩
  | some r => obtain ⟨ps, n⟩ := r; exact pages_some h hf (hps ps n hf)

theorem count_any (h : PoolAt K enc W ρ L s) (i : Nat) : Calls Try.prog 20 #[.pointer (some ⟨L.g, 0, none⟩), .int .i64 (i : Int)] W fun e w' => e = .returned (.int .i64 (s.cnt i)) ∧ W = w' := by
  obtain ⟨c0, c1, c2, c3⟩ := h.cells
  by_cases hi : i < s.pages.length
  · obtain ⟨p0, p1⟩ := h.pageCell i hi
    have hlt : (i : Int) < (s.pages.length : Int) := by omega
    have h0 : (0 : Int) ≤ (i : Int) := by omega
    clear h
    go_enter Try.func20, Try.ntmps20
    go_wp2_with fail
    go_ret
    exact ⟨rfl, rfl⟩
  · have e0 : s.cnt i = 0 := by unfold PSt.cnt; rw [List.getElem?_eq_none (by omega)]; rfl
    have hlt : ¬ (i : Int) < (s.pages.length : Int) := by omega
    have hlt2 : (s.pages.length : Int) ≤ (i : Int) := by omega
    have h0 : (0 : Int) ≤ (i : Int) := by omega
    rw [e0]
    clear h
    go_enter Try.func20, Try.ntmps20
    go_wp2_with fail
    go_ret
    exact ⟨rfl, rfl⟩

theorem get_none (h : PoolAt K enc W ρ L s) {id : Int} (i : Int) (hf : s.find id = none) : Calls Try.prog 22 #[.pointer (some ⟨L.g, 0, none⟩), .int .i64 id, .int .i64 i] W fun e w' => e = .returned (.tuple #[.int .i64 0, .int .i64 14]) ∧ W = w' := by
  have hc := find_any h id
  rw [hf] at hc
  simp only [Option.isSome_none, Bool.false_eq_true, if_false] at hc
  have HC := Lib.hid hc
  clear hc h hf
  go_enter Try.func22, Try.ntmps22
  go_wp2_with fail
  with_reducible refine Calls.mono HC.out ?_
  rintro e w1 ⟨rfl, rfl⟩
  go_wp2_with fail
  go_ret2
  exact ⟨rfl, rfl⟩
theorem get_out (h : PoolAt K enc W ρ L s) {id : Int} {ps : List Nat} {n : Nat} (i : Int) (hf : s.find id = some (ps, n)) (hi : i < 0 ∨ (n : Int) ≤ i) : Calls Try.prog 22 #[.pointer (some ⟨L.g, 0, none⟩), .int .i64 id, .int .i64 i] W fun e w' => e = .returned (.tuple #[.int .i64 0, .int .i64 10]) ∧ W = w' := by
  have hc := find_any h id
  rw [hf] at hc
  simp only [Option.isSome_some, if_true] at hc
  obtain ⟨r0, r1⟩ := h.rowCell (find_row hf).2
  have HC := Lib.hid hc
  clear hc h hf r0
  by_cases h0 : i < 0
  · clear hi
    go_enter Try.func22, Try.ntmps22
    go_wp2_with fail
    with_reducible refine Calls.mono HC.out ?_
    rintro e w1 ⟨rfl, rfl⟩
    go_wp2_with fail
    go_ret2
    exact ⟨rfl, rfl⟩
  · have h1 : (n : Int) ≤ i := by omega
    clear hi
    go_enter Try.func22, Try.ntmps22
    go_wp2_with fail
    with_reducible refine Calls.mono HC.out ?_
    rintro e w1 ⟨rfl, rfl⟩
    go_wp2_with fail
    go_ret2
    exact ⟨rfl, rfl⟩
set_option maxRecDepth 100000 in
theorem get_in (h : PoolAt K enc W ρ L s) {id : Int} {ps : List Nat} {n : Nat} (k : Nat) (hf : s.find id = some (ps, n)) (hk : k < n) (hn : n ≤ 16384) (hsz : 1 ≤ s.size ∧ s.size ≤ 64) (p : Nat) (hp : ps[k / s.size]? = some p) (hpl : p < s.pages.length) (x : Int) (hx : (s.lst p)[k % s.size]? = some x) (hll : (s.lst p).length ≤ 64) (hpsl : ps.length ≤ 1000) (hnp : s.pages.length ≤ 256) :
    Calls Try.prog 22 #[.pointer (some ⟨L.g, 0, none⟩), .int .i64 id, .int .i64 (k : Int)] W fun e w' => e = .returned (.tuple #[enc x, .int .i64 0]) ∧ ∃ m, w' = W.drewN m := by
  have hc := find_any h id
  rw [hf] at hc
  simp only [Option.isSome_some, if_true] at hc
  obtain ⟨c0, c1, c2, c3⟩ := h.cells
  obtain ⟨r0, r1⟩ := h.rowCell (find_row hf).2
  have hrow := (h.row _ _ _ (find_row hf).2).2
  obtain ⟨hkl, hpe⟩ := List.getElem?_eq_some_iff.1 hp
  obtain ⟨g1, cap1, hpv, hg1, hc1⟩ := own_read hrow (Nat.lt_of_le_of_lt (Nat.zero_le _) hkl)
  rw [hpv] at r0
  have x0 : W.cell? ⟨g1, k / s.size, none⟩ = some (.int .i64 (p : Int)) := hc1 _ _ (by simp [ints, hp])
  obtain ⟨hml, hxe⟩ := List.getElem?_eq_some_iff.1 hx
  obtain ⟨p0, p1⟩ := h.pageCell p hpl
  obtain ⟨g2, cap2, hlv, hg2, hc2⟩ := own_read (h.page p hpl) (Nat.lt_of_le_of_lt (Nat.zero_le _) hml)
  rw [hlv] at p0
  have y0 : W.cell? ⟨g2, k % s.size, none⟩ = some (enc x) := hc2 _ _ (by simp [hx])
  have q1 : Int.tdiv (k : Int) (s.size : Int) = ((k / s.size : Nat) : Int) := rfl
  have q2 : Int.tmod (k : Int) (s.size : Int) = ((k % s.size : Nat) : Int) := rfl
  obtain ⟨a, ha⟩ : ∃ a, a = k / s.size := ⟨_, rfl⟩
  obtain ⟨b, hb⟩ : ∃ b, b = k % s.size := ⟨_, rfl⟩
  rw [← ha] at q1 x0 hkl
  rw [← hb] at q2 y0 hml
  have hz : (s.size : Int) ≠ 0 := by omega
  have hz0 : ((s.size : Int) == 0) = false := by simp; omega
  have i1 : (a : Int) < (ps.length : Int) := by omega
  have i2 : (b : Int) < ((s.lst p).length : Int) := by omega
  have i3 : (p : Int) < (s.pages.length : Int) := by omega
  have z1 : (0 : Int) ≤ (a : Int) := by omega
  have z2 : (0 : Int) ≤ (b : Int) := by omega
  have z3 : (0 : Int) ≤ (p : Int) := by omega
  have z4 : (0 : Int) ≤ (k : Int) := by omega
  have z5 : ¬ (k : Int) < 0 := by omega
  have z6 : ¬ (n : Int) ≤ (k : Int) := by omega
  have z7 : (k : Int) < (n : Int) := by omega
  have HC := Lib.hid hc
  clear hc h hf c2 c3 hc1 hc2 hrow hpv hlv hp hx hpe hxe hg1 hg2 hsz p1 ha hb
  go_enter Try.func22, Try.ntmps22
  go_wp2_with fail
  with_reducible refine Calls.mono HC.out ?_
  rintro e w1 ⟨rfl, rfl⟩
  go_wp2_with fail
  go_quiet (fail)
  go_wp2_with fail
  go_ret2
  exact ⟨rfl, _, rfl⟩

theorem zero_any (W : World) (A : Option Addr) (l cp : Nat) (c : Int) : Calls Try.prog 40 #[.agg #[.slice A l cp, .int .i64 c]] W fun e w' => e = .returned (.bool (c == 0)) ∧ Below W.heap.size W w' := by
  go_enter Try.func40, Try.ntmps40
  go_wp2_with fail
  go_ret
  exact ⟨rfl, (Below.refl _ _).alloc (Nat.le_refl _) _⟩

theorem free_snoc (s : PSt Int) (k : Nat) : ((List.range (k + 1)).filter fun i => s.cnt i == 0).length = ((List.range k).filter fun i => s.cnt i == 0).length + (if s.cnt k == 0 then 1 else 0) := by
  rw [List.range_succ, List.filter_append, List.length_append]
  congr 1
  by_cases h : (s.cnt k == 0) = true <;> simp [h]

set_option maxRecDepth 100000 in
set_option maxHeartbeats 1000000 in
theorem freeN (h : PoolAt K enc W ρ L s) (hnp : s.pages.length ≤ 256) : Calls Try.prog 13 #[.pointer (some ⟨L.g, 0, none⟩)] W fun e w' => e = .returned (.int .i64 (s.free : Int)) ∧ Below W.heap.size W w' := by
  have H := Lib.hid h
  obtain ⟨c0, c1, c2, c3⟩ := h.cells
  clear h
  go_enter Try.func13, Try.ntmps13
  go_wp2_with fail
  go_loopw [4, 14] (fun o i wr => ∃ k : Nat, k ≤ s.pages.length ∧ i = .int .i64 k ∧ o = .int .i64 (((List.range k).filter fun i => s.cnt i == 0).length : Int) ∧ Below W.heap.size W wr)
    (fun _ i _ => s.pages.length - (intOf i).toNat)
  case atStart => exact ⟨0, Nat.zero_le _, rfl, rfl, Below.refl _ _⟩
  case round =>
    obtain ⟨k, hk, rfl, rfl, hb⟩ := hrel
    have HB := Lib.hid hb
    obtain ⟨m, hm⟩ : ∃ m, m = ((List.range k).filter fun i => s.cnt i == 0).length := ⟨_, rfl⟩
    have hmk : m ≤ k := by rw [hm]; have := List.length_filter_le (fun i => s.cnt i == 0) (List.range k); simpa using this
    rw [← hm]
    by_cases hlt : k < s.pages.length
    · have hw := H.out.below hb
      obtain ⟨p0, p1⟩ := hw.pageCell k hlt
      obtain ⟨A, cp, hlv⟩ := own_form (hw.page k hlt)
      rw [hlv] at p0
      have HS := Lib.hid (free_snoc s k)
      clear hlv hw hb
      go_wp2_with fail
      with_reducible refine Calls.mono (zero_any _ _ _ _ _) ?_
      rintro e w1 ⟨rfl, hb1⟩
      have HB1 := Lib.hid (below_trans (HB.out.alloc HB.out.size _) hb1)
      clear hb1
      have hmk2 : (m : Int) ≤ 256 := by omega
      by_cases hc : (s.cnt k == 0) = true
      · have e1 := HS.out
        rw [if_pos hc, ← hm] at e1
        have HE := Lib.hid e1
        clear e1
        go_wp2_with fail
        go_roundw
        case rel => exact ⟨k + 1, by omega, by go_num, by rw [HE.out]; go_num, HB1.out⟩
        case measure => simp [intOf]; omega
      · have e1 := HS.out
        rw [if_neg hc, ← hm] at e1
        simp only [Bool.not_eq_true] at hc
        have HE := Lib.hid e1
        clear e1
        go_wp2_with fail
        go_roundw
        case rel => exact ⟨k + 1, by omega, by go_num, by rw [HE.out]; go_num, HB1.out⟩
        case measure => simp [intOf]; omega
    · obtain rfl : k = s.pages.length := by omega
      clear hb
      go_wp2_with fail
      try (rw [Exit.noGoto_ret])
      go_ret
      exact ⟨by rw [hm]; rfl, HB.out⟩
end Go.Proofs.Ytackjeckafoojaa.KvI
