/- The laws' helpers: LeafBytes, NodeBytes, Collides, Half. -/
import Derived.Test.YtplcjgpmainbnaaDoorLwC
import Derived.Test.YtplcjgpmainbnaaDoorMkW
set_option linter.unusedVariables false
set_option linter.unusedSimpArgs false
namespace Go.Proofs.YtplcjgpmainbnaaDoor.MkW
open Go.RowKit OwnS ShaW RevL QTail
attribute [local go_sem ↓] Kit.execOp_call_slot
attribute [local go_sem] Kit.callSlot_func
def BytesPost (W : World) (b : List Nat) (e : Ending) (w' : World) : Prop := ∃ A c, e = .returned (.slice A b.length c) ∧ Owns w' W.heap.size 1 (.slice A b.length c) b.length (bytesV b) ∧ Below W.heap.size W w'
set_option maxRecDepth 100000 in
theorem leafbytes_any (W : World) (bv : Value) (b : List Nat) (hb : Sees W 1 bv b.length (bytesV b)) (hn : b.length ≤ 10000000) : Calls Tryd.prog 34 #[bv] W (BytesPost W (0 :: b)) := by
  obtain ⟨Ab, cb, rfl, -, -⟩ := hb.form
  have hown : Owns (W.alloc (.cells #[.int .u8 0] 5)) W.heap.size 1 (.slice (some ⟨W.heap.size, 0, none⟩) 1 1) 1 [.int .u8 0] := Owns.whole (heap_alloc_new W _) (Nat.le_refl _) rfl (by unfold maxLen; omega)
  have hb1 : Below W.heap.size W (W.alloc (.cells #[.int .u8 0] 5)) := (Below.refl _ _).alloc (Nat.le_refl _) _
  have HO := Lib.hid (And.intro hown (And.intro (hb.new hb1) hb1))
  clear hown hb1 hb
  go_enter Tryd.func34, Tryd.ntmps34
  go_wp2_with (at_builtin; refine wpList_append rfl (.tmp 5) (.tmp 6) 28 28 rfl W.heap.size 5 _ 1 1 Tryd.underlying28 infoB _ 1 [.int .u8 0] rfl HO.out.1 _ b.length (bytesV b) rfl (by exact src_of_sees _ Tryd.underlying28 HO.out.2.1 (bytesV_one b)) (by unfold maxLen; omega) (by omega) HO.out.2.2.size ?_; intro A2 c2 w2 hown2 hg2 hbl2; have HA := Lib.hid (And.intro hown2 hg2); clear hown2 hg2 hbl2)
  go_ret
  have hl : (0 :: b).length = 1 + b.length := by simp; omega
  unfold BytesPost
  rw [hl]
  exact ⟨A2, c2, rfl, HA.out.1, HO.out.2.2.grown HA.out.2 HO.out.2.2.size (fun k e => by cases e; exact Nat.le_refl _)⟩
set_option maxRecDepth 100000 in
theorem nodebytes_any (W : World) (a b : List Nat) (ha : Dig a) (hb : Dig b) : Calls Tryd.prog 39 #[digV a, digV b] W (BytesPost W (Mk.nodeB a b)) := by
  obtain ⟨w1, hw1⟩ : ∃ w1, w1 = ((W.alloc (.cells (bytesV a).toArray 24)).alloc (.cells (bytesV b).toArray 24)).alloc (.cells #[.int .u8 1] 5) := ⟨_, rfl⟩
  have hb1 : Below W.heap.size W w1 := by rw [hw1]; exact (((Below.refl _ _).alloc (Nat.le_refl _) _).alloc (by simp) _).alloc (by simp; omega) _
  have hA1 : w1.heap[W.heap.size]? = some (.cells (bytesV a).toArray 24 (0, 0)) := by
    rw [hw1, Below.heap_alloc _ _ _ (by simp; omega), Below.heap_alloc _ _ _ (by simp)]
    exact heap_alloc_new _ _
  have hB1 : w1.heap[W.heap.size + 1]? = some (.cells (bytesV b).toArray 24 (0, 0)) := by
    rw [hw1, Below.heap_alloc _ _ _ (by simp)]
    have := heap_alloc_new (W.alloc (.cells (bytesV a).toArray 24)) (.cells (bytesV b).toArray 24)
    simpa using this
  have hC1 : w1.heap[W.heap.size + 1 + 1]? = some (.cells #[.int .u8 1] 5 (0, 0)) := by
    rw [hw1]
    have := heap_alloc_new ((W.alloc (.cells (bytesV a).toArray 24)).alloc (.cells (bytesV b).toArray 24)) (.cells #[.int .u8 1] 5)
    simpa using this
  have hsA := sees_block hA1 (by rw [ha.1]; omega)
  have hsB := sees_block hB1 (by rw [hb.1]; omega)
  rw [ha.1] at hsA
  rw [hb.1] at hsB
  have hown : Owns w1 (W.heap.size + 2) 1 (.slice (some ⟨W.heap.size + 1 + 1, 0, none⟩) 1 1) 1 [.int .u8 1] := Owns.whole hC1 (by omega) rfl (by unfold maxLen; omega)
  have hsz : W.heap.size + 2 ≤ w1.heap.size := by rw [hw1]; simp
  have hS : ∀ w2 : World, w1.grownBy w2 (some (W.heap.size + 1 + 1)) → Sees w2 1 (.slice (some ⟨W.heap.size + 1, 0, none⟩) 32 32) 32 (bytesV b) ∧ Below W.heap.size W w2 ∧ W.heap.size + 2 ≤ w2.heap.size := fun w2 hg => by
    refine ⟨hsB.same fun b' eb _ => hg.block b' ?_ ?_, hb1.grown hg hb1.size (fun k e => ?_), Nat.le_trans hsz hg.size⟩
    · obtain rfl : W.heap.size + 1 = b' := Option.some.inj eb
      omega
    · obtain rfl : W.heap.size + 1 = b' := Option.some.inj eb
      intro e; injection e with e; omega
    · cases e; omega
  rw [hw1] at hb1 hsA hsB hown hsz hS
  have H := Lib.hid (And.intro hb1 (And.intro hsA (And.intro hsB (And.intro hown (And.intro ha (And.intro hb (And.intro hsz hS)))))))
  clear hb1 hA1 hB1 hC1 hsA hsB hown ha hb hsz hS hw1 w1
  unfold digV
  go_enter Tryd.func39, Tryd.ntmps39
  go_wp2_with (first | (at_builtin; refine wpList_append rfl (.tmp 7) (.tmp 8) 28 28 rfl (W.heap.size + 2) 5 _ 1 1 Tryd.underlying28 infoB _ 1 [.int .u8 1] rfl H.out.2.2.2.1 _ 32 (bytesV a) rfl (by exact src_of_sees _ Tryd.underlying28 H.out.2.1 (bytesV_one a)) (by unfold maxLen; omega) (by omega) H.out.2.2.2.2.2.2.1 ?_; intro A2 c2 w2 hown2 hg2 hbl2; have HA := Lib.hid (And.intro hown2 (H.out.2.2.2.2.2.2.2 _ hg2)); clear hown2 hg2 hbl2) | (at_builtin; refine wpList_append rfl (.tmp 10) (.tmp 11) 28 28 rfl (W.heap.size + 2) 5 _ 1 1 Tryd.underlying28 infoB _ 33 ([Value.int .u8 1] ++ bytesV a) rfl (by exact HA.out.1) _ 32 (bytesV b) rfl (by exact src_of_sees _ Tryd.underlying28 HA.out.2.1 (bytesV_one b)) (by unfold maxLen; omega) (by omega) HA.out.2.2.2 ?_; intro A3 c3 w3 hown3 hg3 hbl3; have HB := Lib.hid (And.intro hown3 hg3); clear hown3 hg3 hbl3))
  go_ret
  have hl : (Mk.nodeB a b).length = 65 := by unfold Mk.nodeB; simp [H.out.2.2.2.2.1.1, H.out.2.2.2.2.2.1.1]
  have hv : bytesV (Mk.nodeB a b) = [.int .u8 1] ++ bytesV a ++ bytesV b := by unfold Mk.nodeB bytesV; simp
  unfold BytesPost
  rw [hl, hv]
  exact ⟨A3, c3, rfl, HB.out.1.mono (by omega), HA.out.2.2.1.grown HB.out.2 HA.out.2.2.1.size (fun k e => by have := (HA.out.1.lt k e).1; omega)⟩
def collides (a b : List Nat) : Bool := decide (a ≠ b) && decide (Sha.sum a = Sha.sum b)
set_option maxRecDepth 100000 in
theorem collides_any (W : World) (v v' : Value) (a b : List Nat) (hG : Glob W) (ha : Sees W 1 v a.length (bytesV a)) (hb : Sees W 1 v' b.length (bytesV b)) (ha1 : ∀ x ∈ a, x < 256) (hb1 : ∀ x ∈ b, x < 256) (ha2 : a.length ≤ 100000000) (hb2 : b.length ≤ 100000000) :
    Calls Tryd.prog 44 #[v, v'] W fun e w' => e = .returned (.bool (collides a b)) ∧ Below W.heap.size W w' := by
  obtain ⟨A, c, rfl, -, -⟩ := ha.form
  obtain ⟨A', c', rfl, -, -⟩ := hb.form
  have hc := bytes_any W _ _ a b ha hb
  have s1 := fun (w : World) (hw : Below W.heap.size W w) => sum_any w _ a (hG.new hw) (ha.new hw) ha1 ha2
  have s2 := fun (w : World) (hw : Below W.heap.size W w) => sum_any w _ b (hG.new hw) (hb.new hw) hb1 hb2
  obtain ⟨x, hx⟩ : ∃ x, x = Sha.sum a := ⟨_, rfl⟩
  obtain ⟨y, hy⟩ : ∃ y, y = Sha.sum b := ⟨_, rfl⟩
  have dx : Dig x := by rw [hx]; exact dig_sum _
  have dy : Dig y := by rw [hy]; exact dig_sum _
  unfold collides
  rw [← hx, ← hy]
  rw [← hx] at s1
  rw [← hy] at s2
  have q1 : ∀ w, (binOp .eql 24 (digV x) (digV y)).run Tryd.prog w = .ok (.bool (decide (x = y))) w := fun w => by rw [run_eql_dig w x y dx dy]
  have q4 : ∀ op x y w c d, (eqGuard op 24 x y (digV c) (digV d)).run Tryd.prog w = .ok () w := fun op x y w c d => run_guard_dig op x y w c d
  have e1 : ∀ (p q : Bool), p = decide (a = b) → q = decide (x = y) → (decide (a ≠ b) && decide (x = y)) = (!p && q) := fun p q h1 h2 => by rw [h1, h2]; simp
  obtain ⟨p, hp⟩ : ∃ p, p = decide (a = b) := ⟨_, rfl⟩
  obtain ⟨q, hq⟩ : ∃ q, q = decide (x = y) := ⟨_, rfl⟩
  rw [e1 p q hp hq]
  rw [← hp] at hc
  rw [← hq] at q1
  have H := Lib.hid (And.intro hc (And.intro s1 s2))
  clear hc s1 s2 hG ha hb ha1 hb1 hx hy dx dy e1 hp hq
  cases p with
  | true =>
    go_enter Tryd.func44, Tryd.ntmps44
    go_wp2_with (go_at_call 24; (with_reducible refine Calls.mono H.out.1 ?_); rintro e w1 ⟨rfl, hb1⟩; have H1 := Lib.hid hb1; clear hb1)
    go_ret
    exact ⟨rfl, H1.out⟩
  | false =>
    go_enter Tryd.func44, Tryd.ntmps44
    go_wp2_with (first | (go_at_call 24; (with_reducible refine Calls.mono H.out.1 ?_); rintro e w1 ⟨rfl, hb1⟩; have H1 := Lib.hid hb1; clear hb1) | (go_at_call 32; (with_reducible refine Calls.mono (H.out.2.1 _ H1.out) ?_); rintro e w2 ⟨rfl, hb2⟩; have H2 := Lib.hid (below_chain H1.out hb2); clear hb2) | (go_at_call 32; (with_reducible refine Calls.mono (H.out.2.2 _ H2.out) ?_); rintro e w3 ⟨rfl, hb3⟩; have H3 := Lib.hid (below_chain H2.out hb3); clear hb3))
    go_ret
    exact ⟨rfl, H3.out⟩
set_option maxRecDepth 100000 in
theorem Half_any (W : World) (n : Nat) (hn : n ≤ 4611686018427387904) : Calls Tryd.prog 37 #[.int .i64 (n : Int)] W fun e w' => e = .returned (.int .i64 (Mk.half n : Int)) ∧ W = w' := by
  go_enter Tryd.func37, Tryd.ntmps37
  go_wp2_with fail
  go_loop [3] (fun v => ∃ k f : Nat, v = .int .i64 k ∧ 1 ≤ k ∧ k ≤ 4611686018427387904 ∧ n ≤ f + k ∧ Hid (Mk.halfGo f k n = Mk.half n)) (fun v => n - (intOf v).toNat)
  case atStart => exact ⟨1, n, rfl, Nat.le_refl _, by omega, by omega, Lib.hid rfl⟩
  case round =>
    obtain ⟨k, f, rfl, h1, h2, h3, h4⟩ := hrel
    have h1' : (1 : Int) ≤ (k : Int) := by omega
    have h2' : (k : Int) ≤ 4611686018427387904 := by omega
    have hn' : (n : Int) ≤ 4611686018427387904 := by omega
    by_cases h : 2 * k < n
    · have hlt : (k : Int) < (n : Int) - (k : Int) := by omega
      have hk2 : (k : Int) * 2 < 4611686018427387904 := by omega
      go_wp2_with fail
      go_round
      case rel =>
        refine ⟨2 * k, f - 1, by go_num, by omega, by omega, by omega, ?_⟩
        obtain ⟨f', rfl⟩ : ∃ f', f = f' + 1 := ⟨f - 1, by omega⟩
        have := h4.out
        unfold Mk.halfGo at this
        rw [if_pos h] at this
        exact this
      case measure => simp [intOf]; omega
    · have hge : ¬ (k : Int) < (n : Int) - (k : Int) := by omega
      have hv : Mk.half n = k := by
        have := h4.out
        rw [Mk.halfGo_stop f k n (by omega)] at this
        exact this.symm
      have HV := Lib.hid hv
      clear hv
      go_wp2_with fail
      go_ret
      exact ⟨by rw [HV.out]; rfl, rfl⟩
end Go.Proofs.YtplcjgpmainbnaaDoor.MkW
