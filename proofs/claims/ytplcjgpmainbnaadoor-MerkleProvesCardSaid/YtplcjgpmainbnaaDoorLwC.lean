/- The laws' helpers: Bytes, Digests (of whatever lists), LeafBytes, NodeBytes, Collides, Half. -/
import Derived.Test.YtplcjgpmainbnaaDoorLwA
import Derived.Test.YtplcjgpmainbnaaDoorMkX
set_option linter.unusedVariables false
set_option linter.unusedSimpArgs false
namespace Go.Proofs.YtplcjgpmainbnaaDoor.MkW
open Go.RowKit OwnS ShaW RevL QTail
attribute [local go_sem ↓] Kit.execOp_call_slot
attribute [local go_sem] Kit.callSlot_func
theorem sees_byte {w : World} {g o n cap : Nat} {l : List Nat} (h : Sees w 1 (.slice (some ⟨g, o, none⟩) n cap) n (bytesV l)) {i : Nat} (hi : i < n) : ∃ x, l[i]? = some x ∧ w.cell? ⟨g, o + i, none⟩ = some (.int .u8 (x : Int)) := by
  obtain ⟨g', o', cap', e, h1, h2, h3⟩ := h.holds (by omega)
  injection e with e1 e2 e3
  injection e1 with e1
  injection e1 with e1 e4
  subst e1 e3 e4
  have hl : l.length = n := by have := h.1; rw [bytesV_length] at this; omega
  exact ⟨l[i]'(by omega), List.getElem?_eq_getElem (by omega), h3 i _ (by unfold bytesV; rw [List.getElem?_map, List.getElem?_eq_getElem (by omega)]; rfl)⟩
theorem take_same {a b : List Nat} {i x : Nat} (h : a.take i = b.take i) (ha : a[i]? = some x) (hb : b[i]? = some x) : a.take (i + 1) = b.take (i + 1) := by
  obtain ⟨h1, rfl⟩ := List.getElem?_eq_some_iff.1 ha
  obtain ⟨h2, h3⟩ := List.getElem?_eq_some_iff.1 hb
  rw [List.take_succ_eq_append_getElem h1, List.take_succ_eq_append_getElem h2, h, h3]
set_option maxRecDepth 100000 in
theorem bytes_any (W : World) (v v' : Value) (a b : List Nat) (ha : Sees W 1 v a.length (bytesV a)) (hb : Sees W 1 v' b.length (bytesV b)) : Calls Tryd.prog 24 #[v, v'] W fun e w' => e = .returned (.bool (decide (a = b))) ∧ Below W.heap.size W w' := by
  obtain ⟨A, c, rfl, hlc, hcm⟩ := ha.form
  obtain ⟨A', c', rfl, hlc', hcm'⟩ := hb.form
  have hm : a.length ≤ maxLen := by omega
  have hm' : b.length ≤ maxLen := by omega
  unfold maxLen at hm hm'
  have H := Lib.hid (And.intro ha hb)
  clear ha hb
  by_cases hl : a.length = b.length
  · rw [← hl]
    have hl' := Lib.hid hl
    clear hl
    go_enter Tryd.func24, Tryd.ntmps24
    go_wp2_with fail
    go_loopw [5] (fun vi wr => ∃ i : Nat, i ≤ a.length ∧ vi = .int .i64 i ∧ Hid (a.take i = b.take i ∧ Below W.heap.size W wr)) (fun vi _ => a.length - (intOf vi).toNat)
    case atStart => exact ⟨0, Nat.zero_le _, rfl, by simp, Below.refl _ _⟩
    case round =>
      obtain ⟨i, hi, rfl, hI⟩ := hrel
      by_cases hlt : i < a.length
      · have s1 := H.out.1.new hI.out.2
        have s2 := H.out.2.new hI.out.2
        obtain ⟨g1, o1, cp1, e1, -⟩ := s1.holds (by omega)
        obtain ⟨g2, o2, cp2, e2, -⟩ := s2.holds (by have := hl'.out; omega)
        injection e1 with e11 e12 e13
        injection e2 with e21 e22 e23
        subst e11 e13 e21 e23
        clear e12 e22
        obtain ⟨x, hx, cx⟩ := sees_byte s1 (i := i) hlt
        obtain ⟨y, hy, cy⟩ := sees_byte s2 (i := i) (by have := hl'.out; omega)
        have HX := Lib.hid (And.intro hx hy)
        clear s1 s2 hx hy
        by_cases hxy : x = y
        · subst hxy
          go_wp2_with fail
          go_quiet (fail)
          go_wp2_with fail
          go_roundw
          case rel => exact ⟨i + 1, by omega, by go_num, Lib.hid ⟨take_same hI.out.1 HX.out.1 HX.out.2, ⟨hI.out.2.os, hI.out.2.tape, hI.out.2.output, hI.out.2.size, hI.out.2.block⟩⟩⟩
          case measure => simp [intOf]; omega
        · have hne : ((x : Int) != (y : Int)) = true := by simp; omega
          have hne2 : ((x : Int) == (y : Int)) = false := by simp; omega
          have hne3 : ¬ (x : Int) = (y : Int) := by omega
          go_wp2_with fail
          go_quiet (fail)
          go_wp2_with fail
          go_ret
          refine ⟨?_, ⟨hI.out.2.os, hI.out.2.tape, hI.out.2.output, hI.out.2.size, hI.out.2.block⟩⟩
          have hd : decide (a = b) = false := decide_eq_false fun e => by
            have h1 := HX.out.1
            rw [e, HX.out.2] at h1
            injection h1 with h1
            exact hxy h1.symm
          rw [hd]
          rfl
      · have hge : ¬ (i : Int) < (a.length : Int) := by omega
        go_wp2_with fail
        go_ret
        refine ⟨?_, hI.out.2⟩
        have h1 := hI.out.1
        rw [List.take_of_length_le (by omega), List.take_of_length_le (by have := hl'.out; omega)] at h1
        rw [decide_eq_true h1]
        rfl
  · have hne : ¬ (a.length : Int) = (b.length : Int) := by omega
    have hd : decide (a = b) = false := decide_eq_false fun e => hl (by rw [e])
    rw [hd]
    clear hd
    go_enter Tryd.func24, Tryd.ntmps24
    go_wp2_with fail
    go_ret
    exact ⟨rfl, Below.refl _ _⟩
theorem dig_at {w : World} {v : Value} {ds : List (List Nat)} (h : DigsAt w v ds) {g o n cap : Nat} (hv : v = .slice (some ⟨g, o, none⟩) n cap) {i : Nat} (hi : i < ds.length) : ∃ d, ds[i]? = some d ∧ Dig d ∧ n ≤ cap ∧ w.rangeAt g (o + i * 32) (bytesV d) := by
  obtain ⟨d, g', o', cap', h1, h2, h3, h4, h5⟩ := h.cell hi
  rw [hv] at h3
  injection h3 with e1 e2 e3
  injection e1 with e1
  injection e1 with e1 e4
  subst e1 e3 e4
  exact ⟨d, h1, h2, by omega, h5⟩
theorem take_sameL {a b : List (List Nat)} {i : Nat} {x : List Nat} (h : a.take i = b.take i) (ha : a[i]? = some x) (hb : b[i]? = some x) : a.take (i + 1) = b.take (i + 1) := by
  obtain ⟨h1, rfl⟩ := List.getElem?_eq_some_iff.1 ha
  obtain ⟨h2, h3⟩ := List.getElem?_eq_some_iff.1 hb
  rw [List.take_succ_eq_append_getElem h1, List.take_succ_eq_append_getElem h2, h, h3]
set_option maxRecDepth 100000 in
set_option maxHeartbeats 1000000 in
/-- Digests of whatever lists. -/
theorem digests_eq (W : World) (v v' : Value) (a b : List (List Nat)) (ha : DigsAt W v a) (hb : DigsAt W v' b) : Calls Tryd.prog 19 #[v, v'] W fun e w' => e = .returned (.bool (decide (a = b))) ∧ Below W.heap.size W w' := by
  obtain ⟨A, c, rfl, hlc, hcm⟩ := ha.form
  obtain ⟨A', c', rfl, hlc', hcm'⟩ := hb.form
  have hm : a.length ≤ maxLen := by omega
  have hm' : b.length ≤ maxLen := by omega
  unfold maxLen at hm hm'
  have H := Lib.hid (And.intro ha hb)
  clear ha hb
  by_cases hl : a.length = b.length
  · rw [← hl] at hlc' ⊢
    have hl' := Lib.hid hl
    clear hl
    go_enter Tryd.func19, Tryd.ntmps19
    go_wp2_with fail
    go_loopw [5] (fun vi wr => ∃ i : Nat, i ≤ a.length ∧ vi = .int .i64 i ∧ Hid (a.take i = b.take i ∧ Below W.heap.size W wr)) (fun vi _ => a.length - (intOf vi).toNat)
    case atStart => exact ⟨0, Nat.zero_le _, rfl, by simp, Below.refl _ _⟩
    case round =>
      obtain ⟨i, hi, rfl, hI⟩ := hrel
      by_cases hlt : i < a.length
      · have s1 := H.out.1.new hI.out.2
        have s2 := H.out.2.new hI.out.2
        rw [← hl'.out] at s2
        obtain ⟨_, g1, o1, cp1, -, -, e1, -⟩ := s1.cell hlt
        obtain ⟨_, g2, o2, cp2, -, -, e2, -⟩ := s2.cell (i := i) (by have := hl'.out; omega)
        rw [← hl'.out] at e2
        injection e1 with e11 e12 e13
        injection e2 with e21 e22 e23
        subst e11 e13 e21 e23
        clear e12 e22
        obtain ⟨x, hx, dx, -, rx⟩ := dig_at s1 rfl hlt
        obtain ⟨y, hy, dy, -, ry⟩ := dig_at s2 rfl (i := i) (by have := hl'.out; omega)
        have HX := Lib.hid (And.intro hx (And.intro hy (And.intro dx (And.intro dy (And.intro rx ry)))))
        have q1 : ∀ w, (binOp .neq 24 (digV x) (digV y)).run Tryd.prog w = .ok (.bool !(decide (x = y))) w := fun w => by rw [run_neq_dig w x y dx dy]
        have q4 : ∀ op x y w c d, (eqGuard op 24 x y (digV c) (digV d)).run Tryd.prog w = .ok () w := fun op x y w c d => run_guard_dig op x y w c d
        clear s1 s2 hx hy dx dy rx ry
        by_cases hxy : x = y
        · have hq : (!(decide (x = y))) = false := by rw [decide_eq_true hxy]; rfl
          rw [hq] at q1
          have HE := Lib.hid hxy
          clear hxy hq
          go_wp2_with fail
          refine wp_region_quiet_lit (by kernel_rfl) (by kernel_rfl) ?_
          repeat (first | (refine wpQuiet_load_dig rfl (.tmp 19) rfl g1 (o1 + i * 32) rfl x HX.out.2.2.1.1 (by rintro _ ⟨n, rfl⟩; exact HX.out.2.2.2.2.1) ?_; simp only [Act.put, List.setIfInBounds_toArray, List.set_cons_succ, List.set_cons_zero]) | (refine wpQuiet_load_dig rfl (.tmp 23) rfl g2 (o2 + i * 32) rfl y HX.out.2.2.2.1.1 (by rintro _ ⟨n, rfl⟩; exact HX.out.2.2.2.2.2) ?_; simp only [Act.put, List.setIfInBounds_toArray, List.set_cons_succ, List.set_cons_zero]) | go_big_quiet_step (fail))
          refine wpQuiet_nil ?_
          intro _ hw'
          obtain ⟨nr, hw''⟩ := hw'
          subst hw''
          go_wp2_with fail
          go_roundw
          case rel =>
            refine ⟨i + 1, by omega, by go_num, Lib.hid ⟨take_sameL hI.out.1 HX.out.1 ?_, ⟨hI.out.2.os, hI.out.2.tape, hI.out.2.output, hI.out.2.size, hI.out.2.block⟩⟩⟩
            rw [HE.out]
            exact HX.out.2.1
          case measure => simp [intOf]; omega
        · have hq : (!(decide (x = y))) = true := by rw [decide_eq_false hxy]; rfl
          rw [hq] at q1
          have HE := Lib.hid hxy
          clear hxy hq
          go_wp2_with fail
          refine wp_region_quiet_lit (by kernel_rfl) (by kernel_rfl) ?_
          repeat (first | (refine wpQuiet_load_dig rfl (.tmp 19) rfl g1 (o1 + i * 32) rfl x HX.out.2.2.1.1 (by rintro _ ⟨n, rfl⟩; exact HX.out.2.2.2.2.1) ?_; simp only [Act.put, List.setIfInBounds_toArray, List.set_cons_succ, List.set_cons_zero]) | (refine wpQuiet_load_dig rfl (.tmp 23) rfl g2 (o2 + i * 32) rfl y HX.out.2.2.2.1.1 (by rintro _ ⟨n, rfl⟩; exact HX.out.2.2.2.2.2) ?_; simp only [Act.put, List.setIfInBounds_toArray, List.set_cons_succ, List.set_cons_zero]) | go_big_quiet_step (fail))
          refine wpQuiet_nil ?_
          intro _ hw'
          obtain ⟨nr, hw''⟩ := hw'
          subst hw''
          go_wp2_with fail
          go_ret
          refine ⟨?_, ⟨hI.out.2.os, hI.out.2.tape, hI.out.2.output, hI.out.2.size, hI.out.2.block⟩⟩
          have hd : decide (a = b) = false := decide_eq_false fun e => by
            have h1 := HX.out.1
            rw [e, HX.out.2.1] at h1
            injection h1 with h1
            exact HE.out h1.symm
          rw [hd]
          rfl
      · have hge : ¬ (i : Int) < (a.length : Int) := by omega
        go_wp2_with fail
        go_ret
        refine ⟨?_, hI.out.2⟩
        have h1 := hI.out.1
        rw [List.take_of_length_le (by omega), List.take_of_length_le (by have := hl'.out; omega)] at h1
        rw [decide_eq_true h1]
        rfl
  · have hne : ¬ (a.length : Int) = (b.length : Int) := by omega
    have hd : decide (a = b) = false := decide_eq_false fun e => hl (by rw [e])
    rw [hd]
    clear hd
    go_enter Tryd.func19, Tryd.ntmps19
    go_wp2_with fail
    go_ret
    exact ⟨rfl, Below.refl _ _⟩
end Go.Proofs.YtplcjgpmainbnaaDoor.MkW
