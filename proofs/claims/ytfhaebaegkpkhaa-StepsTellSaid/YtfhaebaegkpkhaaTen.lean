/- tensor: Check of a vector, of a matrix; slices.ContainsFunc beneath it; fixed.Check. -/
import Derived.Test.YtfhaebaegkpkhaaByt
import Derived.Test.YtfhaebaegkpkhaaWt
import Derived.Test.YtfhaebaegkpkhaaQTail
set_option linter.unusedVariables false
set_option linter.unusedSimpArgs false
namespace Go.Proofs.Ytfhaebaegkpkhaa.Ten
open Go.RowKit OwnS Byt Cfg QTail
attribute [local go_sem ↓] Kit.execOp_call_slot
attribute [local go_sem] Kit.callSlot_func
/-- Right, or beyond its range. -/
def errOf (b : Bool) : Int := if b then 0 else 10
theorem errOf_true : errOf true = 0 := rfl
theorem errOf_false : errOf false = 10 := rfl
set_option maxRecDepth 100000 in
theorem fxs_any (W : World) (v : Value) (l : List Int) (h : Sees W 1 v l.length (intsV l)) : Calls Try.prog 132 #[v] W fun e w' => e = .returned (.int .i64 (errOf (l.all isNum))) ∧ W = w' := by
  obtain ⟨A, c, rfl, hc1, hc2⟩ := h.form
  have H := Lib.hid h
  have hm : (l.length : Int) ≤ 9223372036854775807 := by unfold maxLen at hc2; omega
  clear h
  go_enter Try.func132, Try.ntmps132
  go_wp2_with fail
  go_loopw [7] (fun vi wr => ∃ i : Nat, i ≤ l.length ∧ vi = .int .i64 i ∧ Hid ((l.take i).all isNum = true) ∧ W = wr) (fun vi _ => l.length - (intOf vi).toNat)
  case atStart => exact ⟨0, Nat.zero_le _, rfl, Lib.hid rfl, rfl⟩
  case round =>
    obtain ⟨i, hi, rfl, hI, rfl⟩ := hrel
    by_cases hlt : i < l.length
    · obtain ⟨g, o, rfl⟩ := some_addr H.out (by omega)
      obtain ⟨n, hn⟩ : ∃ n, l[i]? = some n := ⟨_, List.getElem?_eq_getElem hlt⟩
      have hc := Sees.int H.out hn
      have HN := Lib.hid hn
      clear hn
      by_cases h1 : n < -2147483648
      · go_wp2_with fail
        go_ret
        refine ⟨?_, rfl⟩
        have hf : l.all isNum = false := by
          rw [Bool.eq_false_iff]
          intro ha
          have := List.all_eq_true.1 ha n (List.mem_of_getElem? HN.out)
          simp [isNum] at this
          omega
        rw [hf]
        rfl
      · by_cases h2 : 2147483647 < n
        · go_wp2_with fail
          go_ret
          refine ⟨?_, rfl⟩
          have hf : l.all isNum = false := by
            rw [Bool.eq_false_iff]
            intro ha
            have := List.all_eq_true.1 ha n (List.mem_of_getElem? HN.out)
            simp [isNum] at this
            omega
          rw [hf]
          rfl
        · go_wp2_with fail
          go_roundw
          case rel =>
            refine ⟨i + 1, by omega, by go_num, ?_, trivial⟩
            obtain ⟨hi', e⟩ := List.getElem?_eq_some_iff.1 HN.out
            rw [List.take_succ_eq_append_getElem hi', List.all_append, hI.out, e]
            simp [isNum]
            exact ⟨by omega, by omega⟩
          case measure => simp [intOf]; omega
    · obtain rfl : i = l.length := by omega
      have ha := hI.out
      rw [List.take_length] at ha
      have HA := Lib.hid ha
      clear ha
      go_wp2_with fail
      go_ret
      exact ⟨by rw [HA.out]; rfl, rfl⟩
theorem fx_any (W : World) (n : Int) : Calls Try.prog 131 #[.int .i64 n] W fun e w' => e = .returned (.int .i64 (errOf (isNum n))) ∧ Below W.heap.size W w' := by
  have hb : Below W.heap.size W (W.alloc (.cells #[.int .i64 n] 3)) := (Below.refl _ _).alloc (Nat.le_refl _) _
  have hs : Sees (W.alloc (.cells #[.int .i64 n] 3)) 1 (.slice (some ⟨W.heap.size, 0, none⟩) 1 1) [n].length (intsV [n]) :=
    (Owns.whole (base := 0) (size := 1) (k := 1) (cs := [.int .i64 n]) (heap_alloc_new W _) (Nat.zero_le _) rfl (by unfold maxLen; omega)).sees
  have hc := fxs_any _ _ [n] hs
  have H := Lib.hid (And.intro hc hb)
  clear hc hs hb
  go_enter Try.func131, Try.ntmps131
  go_wp2_with (go_at_call 132; (with_reducible refine Calls.mono H.out.1 ?_); rintro e w' ⟨rfl, rfl⟩)
  go_ret
  exact ⟨by simp, H.out.2⟩
/-- A function that answers yes or no. -/
def IsP (f : FuncId) (p : Int → Bool) : Prop := ∀ (W : World) (n : Int), Calls Try.prog f #[.int .i64 n] W fun e w' => e = .returned (.bool (p n)) ∧ Below W.heap.size W w'
theorem number_is : IsP 129 isNum := fun W n => by
  have H := Lib.hid (fx_any W n)
  cases hp : isNum n with
  | true =>
    rw [hp] at H
    go_enter Try.func129, Try.ntmps129
    go_wp2_with (go_at_call 131; (with_reducible refine Calls.mono H.out ?_); rintro e w' ⟨rfl, hb⟩; have HB := Lib.hid hb; clear hb)
    go_ret
    exact ⟨rfl, HB.out⟩
  | false =>
    rw [hp] at H
    go_enter Try.func129, Try.ntmps129
    go_wp2_with (go_at_call 131; (with_reducible refine Calls.mono H.out ?_); rintro e w' ⟨rfl, hb⟩; have HB := Lib.hid hb; clear hb)
    go_ret
    exact ⟨rfl, HB.out⟩
theorem weight_is : IsP 106 isWt := fun W n => by
  by_cases h1 : -16777216 ≤ n
  · go_enter Try.func106, Try.ntmps106
    go_wp2_with fail
    go_ret
    exact ⟨by simp [isWt, h1], Below.refl _ _⟩
  · go_enter Try.func106, Try.ntmps106
    go_wp2_with fail
    go_ret
    exact ⟨by simp [isWt]; omega, Below.refl _ _⟩
theorem not_number (W : World) (q : Nat) (n : Int) (hq : W.cell? ⟨q, 0, none⟩ = some (.func (.func 129) #[] #[])) :
    Calls Try.prog 123 #[.int .i64 n, .pointer (some ⟨q, 0, none⟩)] W fun e w' => e = .returned (.bool (!isNum n)) ∧ Below W.heap.size W w' := by
  have H := Lib.hid (number_is W n)
  go_enter Try.func123, Try.ntmps123
  go_wp2_with (go_at_call 129; (with_reducible refine Calls.mono H.out ?_); rintro e w' ⟨rfl, hb⟩; have HB := Lib.hid hb; clear hb)
  go_ret
  exact ⟨rfl, HB.out⟩
theorem not_weight (W : World) (q : Nat) (n : Int) (hq : W.cell? ⟨q, 0, none⟩ = some (.func (.func 106) #[] #[])) :
    Calls Try.prog 123 #[.int .i64 n, .pointer (some ⟨q, 0, none⟩)] W fun e w' => e = .returned (.bool (!isWt n)) ∧ Below W.heap.size W w' := by
  have H := Lib.hid (weight_is W n)
  go_enter Try.func123, Try.ntmps123
  go_wp2_with (go_at_call 106; (with_reducible refine Calls.mono H.out ?_); rintro e w' ⟨rfl, hb⟩; have HB := Lib.hid hb; clear hb)
  go_ret
  exact ⟨rfl, HB.out⟩
/-- Whether all of a list are so: what ContainsFunc, and IndexFunc beneath it, are asked with. -/
def AllAt (f : FuncId) (p : Int → Bool) : Prop := ∀ (W : World) (q : Nat) (n : Int), W.cell? ⟨q, 0, none⟩ = some (.func (.func f) #[] #[]) → Calls Try.prog 123 #[.int .i64 n, .pointer (some ⟨q, 0, none⟩)] W fun e w' => e = .returned (.bool (!p n)) ∧ Below W.heap.size W w'
set_option maxRecDepth 100000 in
theorem index_any (f : FuncId) (p : Int → Bool) (hf : AllAt f p) (W : World) (v : Value) (l : List Int) (q : Nat) (hq : W.cell? ⟨q, 0, none⟩ = some (.func (.func f) #[] #[])) (h : Sees W 1 v l.length (intsV l)) :
    Calls Try.prog 112 #[v, .func (.func 123) #[] #[.pointer (some ⟨q, 0, none⟩)]] W fun e w' => ∃ k : Int, e = .returned (.int .i64 k) ∧ decide (0 ≤ k) = !(l.all p) ∧ Below W.heap.size W w' := by
  obtain ⟨A, c, rfl, hc1, hc2⟩ := h.form
  have hm : (l.length : Int) ≤ 9223372036854775807 := by unfold maxLen at hc2; omega
  have H := Lib.hid (And.intro hf (And.intro h hq))
  clear hf h hq
  go_enter Try.func112, Try.ntmps112
  go_wp2_with fail
  go_loopw [8] (fun vi wr => ∃ i : Nat, i ≤ l.length ∧ vi = .int .i64 i ∧ Hid ((l.take i).all p = true ∧ Below W.heap.size W wr)) (fun vi _ => l.length - (intOf vi).toNat)
  case atStart => exact ⟨0, Nat.zero_le _, rfl, rfl, Below.refl _ _⟩
  case round =>
    obtain ⟨i, hi, rfl, hI⟩ := hrel
    by_cases hlt : i < l.length
    · obtain ⟨g, o, rfl⟩ := some_addr H.out.2.1 (by omega)
      obtain ⟨n, hn⟩ : ∃ n, l[i]? = some n := ⟨_, List.getElem?_eq_getElem hlt⟩
      have hc := Sees.int (H.out.2.1.new hI.out.2) hn
      have hcall := H.out.1 wr q n ((hI.out.2.cell (block_lt_of_cell H.out.2.2)).trans H.out.2.2)
      obtain ⟨b, hb⟩ : ∃ b, b = p n := ⟨_, rfl⟩
      rw [← hb] at hcall
      have HN := Lib.hid (And.intro hn (And.intro hcall hb))
      clear hn hcall hb
      cases b with
      | true =>
        go_wp2_with (go_at_call 123; (with_reducible refine Calls.mono HN.out.2.1 ?_); rintro e w1 ⟨rfl, hb1⟩; have HB := Lib.hid hb1; clear hb1)
        go_roundw
        case rel =>
          refine ⟨i + 1, by omega, by go_num, ?_, below_chain hI.out.2 HB.out⟩
          obtain ⟨hi', e⟩ := List.getElem?_eq_some_iff.1 HN.out.1
          rw [List.take_succ_eq_append_getElem hi', List.all_append, hI.out.1, e]
          simp [← HN.out.2.2]
        case measure => simp [intOf]; omega
      | false =>
        go_wp2_with (go_at_call 123; (with_reducible refine Calls.mono HN.out.2.1 ?_); rintro e w1 ⟨rfl, hb1⟩; have HB := Lib.hid hb1; clear hb1)
        go_ret
        refine ⟨(i : Int), rfl, ?_, below_chain hI.out.2 HB.out⟩
        have hf : l.all p = false := by
          rw [Bool.eq_false_iff]
          intro ha
          have := List.all_eq_true.1 ha n (List.mem_of_getElem? HN.out.1)
          rw [← HN.out.2.2] at this
          cases this
        rw [hf]
        simp
    · obtain rfl : i = l.length := by omega
      have ha := hI.out.1
      rw [List.take_length] at ha
      have HA := Lib.hid ha
      clear ha
      go_wp2_with fail
      go_ret
      exact ⟨-1, rfl, by rw [HA.out]; rfl, hI.out.2⟩
theorem contains_any (f : FuncId) (p : Int → Bool) (hf : AllAt f p) (W : World) (v : Value) (l : List Int) (q : Nat) (hq : W.cell? ⟨q, 0, none⟩ = some (.func (.func f) #[] #[])) (h : Sees W 1 v l.length (intsV l)) :
    Calls Try.prog 78 #[v, .func (.func 123) #[] #[.pointer (some ⟨q, 0, none⟩)]] W fun e w' => e = .returned (.bool (!(l.all p))) ∧ Below W.heap.size W w' := by
  obtain ⟨A, c, rfl, hc1, hc2⟩ := h.form
  have H := Lib.hid (index_any f p hf W _ l q hq h)
  clear hf h hq
  obtain ⟨b, hb⟩ : ∃ b, b = !(l.all p) := ⟨_, rfl⟩
  rw [← hb]
  rw [← hb] at H
  clear hb
  go_enter Try.func78, Try.ntmps78
  go_wp2_with (go_at_call 112; (with_reducible refine Calls.mono H.out ?_); rintro e w1 ⟨k, rfl, hk, hb1⟩; have HB := Lib.hid (And.intro hk hb1); clear hb1 hk)
  go_ret
  exact ⟨by rw [← HB.out.1]; rfl, HB.out.2⟩
theorem all_any (f : FuncId) (p : Int → Bool) (hf : AllAt f p) (W : World) (v : Value) (l : List Int) (h : Sees W 1 v l.length (intsV l)) :
    Calls Try.prog 105 #[v, .func (.func f) #[] #[]] W fun e w' => e = .returned (.bool (l.all p)) ∧ Below W.heap.size W w' := by
  obtain ⟨A, c, rfl, hc1, hc2⟩ := h.form
  have hb0 : Below W.heap.size W (W.alloc (.cells #[.func (.func f) #[] #[]] 158)) := (Below.refl _ _).alloc (Nat.le_refl _) _
  have hc := contains_any f p hf _ _ l W.heap.size (by rw [cell_of_row _ _ 0 _ _ _ (heap_alloc_new W (.cells #[.func (.func f) #[] #[]] 158))]; rfl) (h.new hb0)
  have H := Lib.hid (And.intro hc hb0)
  clear hc hb0 h hf
  obtain ⟨b, hb⟩ : ∃ b, b = l.all p := ⟨_, rfl⟩
  rw [← hb]
  rw [← hb] at H
  clear hb
  go_enter Try.func105, Try.ntmps105
  go_wp2_with (go_at_call 78; (with_reducible refine Calls.mono H.out.1 ?_); rintro e w1 ⟨rfl, hb1⟩; have HB := Lib.hid (below_chain H.out.2 hb1); clear hb1)
  go_ret
  exact ⟨by simp, HB.out⟩
theorem all_number : AllAt 129 isNum := fun W q n h => not_number W q n h
theorem all_weight : AllAt 106 isWt := fun W q n h => not_weight W q n h
theorem vec_any (W : World) (v : Value) (l : List Int) (h : Sees W 1 v l.length (intsV l)) :
    Calls Try.prog 117 #[v] W fun e w' => e = .returned (.int .i64 (vecErr l)) ∧ Below W.heap.size W w' := by
  obtain ⟨A, c, rfl, hc1, hc2⟩ := h.form
  have H := Lib.hid (all_any _ _ all_number W _ l h)
  obtain ⟨E, hE⟩ : ∃ E, E = vecErr l := ⟨_, rfl⟩
  rw [← hE]
  by_cases h0 : l.length = 0
  · have hv : E = 13 := by rw [hE]; unfold vecErr; rw [if_pos (.inl h0)]
    have z0 : (l.length : Int) = 0 := by omega
    have HV := Lib.hid hv
    clear hE hv h
    go_enter Try.func117, Try.ntmps117
    go_wp2_with fail
    go_ret
    exact ⟨by rw [HV.out]; rfl, Below.refl _ _⟩
  · have z0 : ¬ (l.length : Int) = 0 := by omega
    by_cases h1 : 512 < l.length
    · have hv : E = 13 := by rw [hE]; unfold vecErr; rw [if_pos (.inr h1)]
      have z1 : (512 : Int) < (l.length : Int) := by omega
      have HV := Lib.hid hv
      clear hE hv h
      go_enter Try.func117, Try.ntmps117
      go_wp2_with fail
      go_ret
      exact ⟨by rw [HV.out]; rfl, Below.refl _ _⟩
    · have z1 : ¬ (512 : Int) < (l.length : Int) := by omega
      obtain ⟨b, hb⟩ : ∃ b, b = l.all isNum := ⟨_, rfl⟩
      have hv : E = errOf b := by rw [hE, hb]; unfold vecErr; rw [if_neg (by omega)]; rfl
      rw [← hb] at H
      have HV := Lib.hid hv
      clear hE hv h hb
      cases b with
      | true =>
        go_enter Try.func117, Try.ntmps117
        go_wp2_with (go_at_call 105; (with_reducible refine Calls.mono H.out ?_); rintro e w1 ⟨rfl, hb1⟩; have HB := Lib.hid hb1; clear hb1)
        go_ret
        exact ⟨by rw [HV.out]; rfl, HB.out⟩
      | false =>
        go_enter Try.func117, Try.ntmps117
        go_wp2_with (go_at_call 105; (with_reducible refine Calls.mono H.out ?_); rintro e w1 ⟨rfl, hb1⟩; have HB := Lib.hid hb1; clear hb1)
        go_ret
        exact ⟨by rw [HV.out]; rfl, HB.out⟩
set_option maxHeartbeats 1000000 in
theorem mat_any (W : World) (v : Value) (m : Mat) (h : Sees W 1 v m.l.length (intsV m.l)) :
    Calls Try.prog 73 #[.agg #[.int .i64 m.rows, .int .i64 m.cols, v]] W fun e w' => e = .returned (.int .i64 (matErr m)) ∧ Below W.heap.size W w' := by
  obtain ⟨rows, cols, l⟩ := m
  simp only at h
  obtain ⟨A, c, rfl, hc1, hc2⟩ := h.form
  obtain ⟨E, hE⟩ : ∃ E, E = matErr ⟨rows, cols, l⟩ := ⟨_, rfl⟩
  rw [← hE]
  simp only
  have hb0 : Below W.heap.size W (W.alloc (.cells #[.int .i64 rows, .int .i64 cols, .slice A l.length c] 28)) := (Below.refl _ _).alloc (Nat.le_refl _) _
  have H := Lib.hid (And.intro (all_any _ _ all_weight _ _ l (h.new hb0)) hb0)
  clear h hb0
  unfold matErr at hE
  simp only at hE
  by_cases h1 : rows < 1
  · have hv : E = 13 := by rw [hE, if_pos (.inl h1)]
    have HV := Lib.hid hv
    clear hE hv
    go_enter Try.func73, Try.ntmps73
    go_wp2_with fail
    go_ret
    exact ⟨by rw [HV.out]; rfl, H.out.2⟩
  · by_cases h2 : 512 < rows
    · have hv : E = 13 := by rw [hE, if_pos (.inr (.inl h2))]
      have HV := Lib.hid hv
      clear hE hv
      go_enter Try.func73, Try.ntmps73
      go_wp2_with fail
      go_ret
      exact ⟨by rw [HV.out]; rfl, H.out.2⟩
    · by_cases h3 : cols < 1
      · have hv : E = 13 := by rw [hE, if_pos (.inr (.inr (.inl h3)))]
        have HV := Lib.hid hv
        clear hE hv
        go_enter Try.func73, Try.ntmps73
        go_wp2_with fail
        go_ret
        exact ⟨by rw [HV.out]; rfl, H.out.2⟩
      · by_cases h4 : 64 < cols
        · have hv : E = 13 := by rw [hE, if_pos (.inr (.inr (.inr (.inl h4))))]
          have HV := Lib.hid hv
          clear hE hv
          go_enter Try.func73, Try.ntmps73
          go_wp2_with fail
          go_ret
          exact ⟨by rw [HV.out]; rfl, H.out.2⟩
        · have hp1 : rows * cols ≤ 512 * 64 := Int.mul_le_mul (by omega) (by omega) (by omega) (by omega)
          have hp0 : 0 ≤ rows * cols := Int.mul_nonneg (by omega) (by omega)
          obtain ⟨k, hk⟩ : ∃ k, k = rows * cols := ⟨_, rfl⟩
          rw [← hk] at hE hp1 hp0
          have hkk : binOp .mul 3 (.int .i64 rows) (.int .i64 cols) = binOp .mul 3 (.int .i64 rows) (.int .i64 cols) := rfl
          by_cases h5 : (l.length : Int) = k
          · obtain ⟨b, hb⟩ : ∃ b, b = l.all isWt := ⟨_, rfl⟩
            have hv : E = errOf b := by rw [hE, hb, if_neg (by omega)]; rfl
            have h5' : (l.length : Int) = rows * cols := by rw [h5, hk]
            rw [hk] at hp1 hp0
            rw [← hb] at H
            have HV := Lib.hid hv
            clear hE hv hb hk h5 hkk
            cases b with
            | true =>
              go_enter Try.func73, Try.ntmps73
              go_wp2_with (go_at_call 105; (with_reducible refine Calls.mono H.out.1 ?_); rintro e w1 ⟨rfl, hb1⟩; have HB := Lib.hid (below_chain H.out.2 hb1); clear hb1)
              go_ret
              exact ⟨by rw [HV.out]; rfl, HB.out⟩
            | false =>
              go_enter Try.func73, Try.ntmps73
              go_wp2_with (go_at_call 105; (with_reducible refine Calls.mono H.out.1 ?_); rintro e w1 ⟨rfl, hb1⟩; have HB := Lib.hid (below_chain H.out.2 hb1); clear hb1)
              go_ret
              exact ⟨by rw [HV.out]; rfl, HB.out⟩
          · have hv : E = 13 := by rw [hE, if_pos (.inr (.inr (.inr (.inr h5))))]
            have h5' : ¬ (l.length : Int) = rows * cols := by rw [← hk]; exact h5
            rw [hk] at hp1 hp0
            have HV := Lib.hid hv
            clear hE hv hk h5 hkk
            go_enter Try.func73, Try.ntmps73
            go_wp2_with fail
            go_ret
            exact ⟨by rw [HV.out]; rfl, H.out.2⟩
end Go.Proofs.Ytfhaebaegkpkhaa.Ten
