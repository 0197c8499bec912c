import Derived.Test.YtlgoclfdjlmjnaaParts
namespace Go.Proofs.Ytlgoclfdjlmjnaa.Cfg
open Go.RowKit Go.Shelf
attribute [local go_sem ↓] Kit.execOp_call_slot
attribute [local go_sem] Kit.callSlot_func

theorem flatR_at (l : List Blk) (k : Nat) (h : k < l.length) (j : Nat) (hj : j < 5) : (flatR l)[k * 5 + j]? = (rcells l[k])[j]? := by
  induction l generalizing k with
  | nil => simp at h
  | cons b l ih =>
    have e : flatR (b :: l) = rcells b ++ flatR l := by simp [flatR]
    rw [e]
    cases k with
    | zero => rw [List.getElem?_append_left (by simp [rcells]; omega)]; simp
    | succ k =>
      rw [List.getElem?_append_right (by simp [rcells]; omega)]
      have : (k + 1) * 5 + j - (rcells b).length = k * 5 + j := by simp [rcells]; omega
      rw [this]
      simpa using ih k (by simpa using h)
theorem own_row {W : World} {base g n cap : Nat} {l : List Blk} (h : W.ownsRow base 64 5 (.slice (some ⟨g, 0, none⟩) n cap) n (flatR l)) (k : Nat) (hk : k < l.length) :
    W.cell? ⟨g, k * 5, none⟩ = some (.int .i64 l[k].kind) ∧ W.cell? ⟨g, k * 5 + 1, none⟩ = some (.int .i64 l[k].layer) ∧ W.cell? ⟨g, k * 5 + 2, none⟩ = some (.int .i64 l[k].rows) := by
  have key : ∀ j, j < 5 → W.cell? ⟨g, k * 5 + j, none⟩ = (rcells l[k])[j]? := by
    intro j hj
    have e := flatR_at l k hk j hj
    have hj' : j < (rcells l[k]).length := by simpa [rcells] using hj
    have e2 := h.cells (g := g) rfl (k * 5 + j) _ (by rw [e]; exact List.getElem?_eq_getElem hj')
    rw [List.getElem?_eq_getElem hj', ← e2]
    congr 1
    unfold Addr.add
    split <;> simp_all
  exact ⟨key 0 (by omega), key 1 (by omega), key 2 (by omega)⟩

theorem rowsSum_take (l : List Blk) (k : Nat) (h : k < l.length) : rowsSum (l.take (k + 1)) = rowsSum (l.take k) + l[k].rows := by
  rw [List.take_succ_eq_append_getElem h, rowsSum_snoc]

set_option maxRecDepth 100000 in
set_option maxHeartbeats 2000000 in
theorem refMany_any (c : C6) (w : World) (h : c.chk = 0) :
    Calls Try.prog 15 #[.agg #[.int .i64 c.v, .int .i64 c.d, .int .i64 c.h, .int .i64 c.l, .int .i64 c.c, .int .i64 c.x]] w fun e W' =>
      e = .returned (.int .i64 (1 + rowsSum (blks c))) ∧ Below w.heap.size w W' := by
  have hb := bounds_of h
  have HB := Lib.hid hb
  have HC := Lib.hid h
  clear hb h
  go_enter Try.func15, Try.ntmps15
  go_wp2_with fail
  with_reducible refine Calls.mono (parts_any c _ HB.out.2.2.2.1.1 HB.out.2.2.2.1.2) ?_
  rintro e W ⟨v, n, rfl, hP⟩
  obtain ⟨L, hL, hP⟩ : ∃ L, L = blks c ∧ Hid (PS (w.alloc (.cells #[.int .i64 c.v, .int .i64 c.d, .int .i64 c.h, .int .i64 c.l, .int .i64 c.c, .int .i64 c.x] 27)) W c v n L) := ⟨_, rfl, hP⟩
  have hlen := hP.out.len
  have hn : 0 < n := by rw [hlen, hL, blks_length]; omega
  obtain ⟨g, cap, rfl, hbg, hgl⟩ := hP.out.own.form hn
  have hn60 := hP.out.few
  have hBW : Below w.heap.size w W := ((Below.refl _ _).alloc (Nat.le_refl _) _).trans (hP.out.below.mono (by simp))
  have hrb : ∀ b ∈ L, 1 ≤ b.rows ∧ b.rows ≤ 512 := by rw [hL]; intro b hb; exact rows_bound HC.out hb
  have hsum : ∀ k, 0 ≤ rowsSum (L.take k) ∧ rowsSum (L.take k) ≤ 60 * 512 := by
    intro k
    have := rowsSum_bound (l := L.take k) (m := 512) (by omega) (fun b hb => by have := hrb b (List.mem_of_mem_take hb); omega)
    have h2 : (L.take k).length ≤ 60 := by rw [List.length_take]; omega
    have h3 : ((L.take k).length : Int) * 512 ≤ 60 * 512 := by omega
    omega
  have HL := Lib.hid (And.intro hL (And.intro hlen (And.intro hrb (And.intro hsum hBW))))
  clear hL hlen hrb hsum hBW hbg
  go_wp2_with fail
  go_loopw [3, 5] (fun s i wr => ∃ k m : Nat, k ≤ n ∧ i = .int .i64 k ∧ s = .int .i64 (1 + rowsSum (L.take k)) ∧ wr = W.drewN m)
    (fun _ i _ => n - (intOf i).toNat)
  case atStart => exact ⟨0, 0, Nat.zero_le _, rfl, by simp [rowsSum], rfl⟩
  case round =>
    obtain ⟨k, m, hk, rfl, rfl, rfl⟩ := hrel
    by_cases hlt : k < n
    · have hkL : k < L.length := by have := HL.out.2.1; omega
      obtain ⟨c0, c1, c2⟩ := own_row hP.out.own k hkL
      have hs := HL.out.2.2.2.1 k
      have hr := HL.out.2.2.1 L[k] (List.getElem_mem hkL)
      obtain ⟨z, hz⟩ : ∃ z, z = rowsSum (L.take k) := ⟨_, rfl⟩
      have ht := rowsSum_take L k hkL
      rw [← hz] at hs ht ⊢
      have HT := Lib.hid (And.intro hz ht)
      clear hz ht
      go_wp2_with fail
      try go_quiet (fail)
      try go_wp2_with fail
      go_roundw
      case rel => exact ⟨k + 1, _, by omega, by go_num, by rw [HT.out.2, Int.add_assoc], rfl⟩
      case measure => simp [intOf]; omega
    · obtain rfl : k = n := by omega
      have HS : Hid (rowsSum (L.take k) = rowsSum (blks c)) := by
        have := HL.out.1
        have h2 := HL.out.2.1
        show _ = _
        rw [h2, List.take_length, this]
      go_wp2_with fail
      go_ret
      exact ⟨by rw [← HS.out]; rfl, below_drewN HL.out.2.2.2.2 _⟩

/-- The document's answer, as one number. -/
def refPlace (p : P3) (l : List Blk) : Int := if (placeL p l 1).2 = 0 then (placeL p l 1).1 else -1

set_option maxRecDepth 100000 in
set_option maxHeartbeats 4000000 in
theorem refPlace_any (c : C6) (p : P3) (w : World) (h : c.chk = 0) :
    Calls Try.prog 16 #[.agg #[.int .i64 c.v, .int .i64 c.d, .int .i64 c.h, .int .i64 c.l, .int .i64 c.c, .int .i64 c.x], .int .i64 p.kind, .int .i64 p.layer, .int .i64 p.row] w fun e W' =>
      e = .returned (.int .i64 (refPlace p (blks c))) ∧ Below w.heap.size w W' := by
  have hb := bounds_of h
  have HB := Lib.hid hb
  have HC := Lib.hid h
  clear hb h
  go_enter Try.func16, Try.ntmps16
  go_wp2_with fail
  with_reducible refine Calls.mono (parts_any c _ HB.out.2.2.2.1.1 HB.out.2.2.2.1.2) ?_
  rintro e W ⟨v, n, rfl, hP⟩
  obtain ⟨L, hL, hP⟩ : ∃ L, L = blks c ∧ Hid (PS (w.alloc (.cells #[.int .i64 c.v, .int .i64 c.d, .int .i64 c.h, .int .i64 c.l, .int .i64 c.c, .int .i64 c.x] 27)) W c v n L) := ⟨_, rfl, hP⟩
  have hlen := hP.out.len
  have hn : 0 < n := by rw [hlen, hL, blks_length]; omega
  obtain ⟨g, cap, rfl, hbg, hgl⟩ := hP.out.own.form hn
  have hn60 := hP.out.few
  have hBW : Below w.heap.size w W := ((Below.refl _ _).alloc (Nat.le_refl _) _).trans (hP.out.below.mono (by simp))
  have hrb : ∀ b ∈ L, 1 ≤ b.rows ∧ b.rows ≤ 512 := by rw [hL]; intro b hb; exact rows_bound HC.out hb
  have hsum : ∀ k, 0 ≤ rowsSum (L.take k) ∧ rowsSum (L.take k) ≤ 60 * 512 := by
    intro k
    have := rowsSum_bound (l := L.take k) (m := 512) (by omega) (fun b hb => by have := hrb b (List.mem_of_mem_take hb); omega)
    have h2 : (L.take k).length ≤ 60 := by rw [List.length_take]; omega
    have h3 : ((L.take k).length : Int) * 512 ≤ 60 * 512 := by omega
    omega
  have HL := Lib.hid (And.intro hL (And.intro hlen (And.intro hrb (And.intro hsum hBW))))
  clear hL hlen hrb hsum hBW hbg
  go_wp2_with fail
  go_loopw [9, 11] (fun s i wr => ∃ k m : Nat, k ≤ n ∧ i = .int .i64 k ∧ s = .int .i64 (1 + rowsSum (L.take k)) ∧ wr = W.drewN m ∧ Hid (∀ b ∈ L.take k, ¬ hit p b))
    (fun _ i _ => n - (intOf i).toNat)
  case atStart => exact ⟨0, 0, Nat.zero_le _, rfl, by simp [rowsSum], rfl, Lib.hid (by simp)⟩
  case round =>
    obtain ⟨k, m, hk, rfl, rfl, rfl, HN⟩ := hrel
    by_cases hlt : k < n
    · have hkL : k < L.length := by have := HL.out.2.1; omega
      obtain ⟨c0, c1, c2⟩ := own_row hP.out.own k hkL
      have hs := HL.out.2.2.2.1 k
      have hr := HL.out.2.2.1 L[k] (List.getElem_mem hkL)
      have hsplit : L = L.take k ++ [L[k]] ++ L.drop (k + 1) := by rw [← List.take_succ_eq_append_getElem hkL, List.take_append_drop]
      have hval : hit p L[k] → refPlace p (blks c) = if p.row < 0 ∨ L[k].rows ≤ p.row then -1 else 1 + rowsSum (L.take k) + p.row := by
        intro hh
        have := placeL_hit p (L.take k) L[k] (L.drop (k + 1)) 1 HN.out hh
        rw [← hsplit] at this
        unfold refPlace
        rw [← HL.out.1, this]
        split <;> simp
      obtain ⟨z, hz⟩ : ∃ z, z = rowsSum (L.take k) := ⟨_, rfl⟩
      obtain ⟨b, hbk⟩ : ∃ b, b = L[k] := ⟨_, rfl⟩
      have ht := rowsSum_take L k hkL
      have hnx : ¬ hit p L[k] → ∀ b ∈ L.take (k + 1), ¬ hit p b := by
        intro hh b hb
        rw [List.take_succ_eq_append_getElem hkL] at hb
        rcases List.mem_append.1 hb with hb | hb
        · exact HN.out b hb
        · simp at hb; subst hb; exact hh
      rw [← hz] at hs ht hval ⊢
      rw [← hbk] at c0 c1 c2 hr ht hval hnx
      have HT := Lib.hid (And.intro ht (And.intro hval hnx))
      clear hz ht hval hnx hsplit HN hbk
      by_cases hk1 : b.kind = p.kind
      · have ek : (b.kind == p.kind) = true := by simpa using hk1
        by_cases hl1 : b.layer = p.layer
        · have el : (b.layer == p.layer) = true := by simpa using hl1
          have HH : Hid (hit p b) := ⟨hk1, hl1⟩
          clear hk1 hl1
          by_cases hr1 : p.row < 0
          · have HV : Hid (refPlace p (blks c) = -1) := by have := HT.out.2.1 HH.out; rw [if_pos (.inl hr1)] at this; exact this
            go_wp2_with fail
            go_ret
            exact ⟨by rw [HV.out]; rfl, below_drewN HL.out.2.2.2.2 _⟩
          · by_cases hr2 : b.rows ≤ p.row
            · have HV : Hid (refPlace p (blks c) = -1) := by have := HT.out.2.1 HH.out; rw [if_pos (.inr hr2)] at this; exact this
              go_wp2_with fail
              go_ret
              exact ⟨by rw [HV.out]; rfl, below_drewN HL.out.2.2.2.2 _⟩
            · have HV : Hid (refPlace p (blks c) = 1 + z + p.row) := by have := HT.out.2.1 HH.out; rw [if_neg (by omega)] at this; exact this
              go_wp2_with fail
              go_ret
              exact ⟨by rw [HV.out]; rfl, below_drewN HL.out.2.2.2.2 _⟩
        · have el : (b.layer == p.layer) = false := by simpa using hl1
          have HH : Hid (¬ hit p b) := fun h => hl1 h.2
          clear hk1 hl1
          go_wp2_with fail
          go_roundw
          case rel => exact ⟨k + 1, _, by omega, by go_num, by rw [HT.out.1, Int.add_assoc], rfl, HT.out.2.2 HH.out⟩
          case measure => simp [intOf]; omega
      · have ek : (b.kind == p.kind) = false := by simpa using hk1
        have HH : Hid (¬ hit p b) := fun h => hk1 h.1
        clear hk1
        go_wp2_with fail
        go_roundw
        case rel => exact ⟨k + 1, _, by omega, by go_num, by rw [HT.out.1, Int.add_assoc], rfl, HT.out.2.2 HH.out⟩
        case measure => simp [intOf]; omega
    · obtain rfl : k = n := by omega
      have HS : Hid (refPlace p (blks c) = -1) := by
        have h2 := HL.out.2.1
        have h3 := HN.out
        rw [h2, List.take_length, HL.out.1] at h3
        show _ = _
        unfold refPlace
        rw [placeL_none _ _ _ h3]
        simp
      go_wp2_with fail
      go_ret
      exact ⟨by rw [HS.out]; rfl, below_drewN HL.out.2.2.2.2 _⟩
end Go.Proofs.Ytlgoclfdjlmjnaa.Cfg
