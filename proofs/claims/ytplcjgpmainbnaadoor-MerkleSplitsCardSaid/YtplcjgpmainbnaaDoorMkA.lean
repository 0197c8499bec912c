/- merkle: Leaf, half. -/
import Derived.Test.YtplcjgpmainbnaaDoorShF
import Derived.Test.YtplcjgpmainbnaaDoorMk3
set_option linter.unusedVariables false
set_option linter.unusedSimpArgs false
namespace Go.Proofs.YtplcjgpmainbnaaDoor.MkW
open Go.RowKit OwnS ShaW
attribute [local go_sem ↓] Kit.execOp_call_slot
attribute [local go_sem] Kit.callSlot_func
theorem dig_info : (Tryd.prog.info? 24).map (·.size) = some 32 := by kernel_rfl
theorem dig_infoD (D : List Nat) (h : D.length = 32) : (Tryd.prog.info? 24).map (·.size) = some (bytesV D).length := by rw [bytesV_length, h]; exact dig_info
section
variable {w : World} {ops : Array Oper} {rest : List Oper} {o : Oper} {a : Act} {Q : Exit → Act → World → Prop}
/-- A digest is stored whole. -/
theorem wpList_store_dig (hgd : o.guard = none) (x y : Operand) (ho : o.op = .store 24 x y) (g : Nat) (hx : a.eval x = .pointer (some ⟨g, 0, none⟩)) (D : List Nat) (hy : a.eval y = digV D) (hD : D.length = 32)
    (D0 : List Value) (hg : w.heap[g]? = some (.cells D0.toArray 24 (0, 0))) (h0 : D0.length = 32) (h : wpList Tryd.prog ops Q rest (a.put o.dst undef) (w.setRow g (bytesV D).toArray)) : wpList Tryd.prog ops Q (o :: rest) a w := by
  obtain ⟨o1, o2, o3⟩ := digV_ok D hD
  exact wpList_store_row hgd 24 x y ho g (bytesV D).toArray hx hy 24 D0.toArray hg o1 (by rw [o3, List.size_toArray, h0]) o2 h
/-- A digest is loaded whole. -/
theorem wpList_load_dig (hgd : o.guard = none) (x : Operand) (ho : o.op = .load 24 x) (g p : Nat) (hx : a.eval x = .pointer (some ⟨g, p, none⟩)) (D : List Nat) (hg : w.rangeAt g p (bytesV D)) (hD : D.length = 32)
    (h : wpList Tryd.prog ops Q rest (a.put o.dst (digV D)) w) : wpList Tryd.prog ops Q (o :: rest) a w :=
  wpList_load_mid hgd 24 x ho g p hx (bytesV D) _ hg Tryd.underlying24 rfl (by rw [bytesV_length, hD]; exact dig_info) h
end
theorem run_load_dig (w : World) (g p : Nat) (D : List Nat) (hg : w.rangeAt g p (bytesV D)) (hD : D.length = 32) : (Instr.loadAt 24 (.pointer (some ⟨g, p, none⟩))).run Tryd.prog w = .ok (digV D) w :=
  run_loadAt_mid w g p 24 (bytesV D) _ hg Tryd.underlying24 rfl (by rw [bytesV_length, hD]; exact dig_info)
/-- What comes back out of a result's cells. -/
theorem ret_dig {fn : Func} {p : Tmp} (h : fn.results = #[.cell p 24]) (tmps : Array Value) (w : World) (g : Nat) (D : List Nat) (hp : tmps.getD p undef = .pointer (some ⟨g, 0, none⟩)) (hg : w.heap[g]? = some (.cells (bytesV D).toArray 24 (0, 0))) (hD : D.length = 32) :
    (results fn tmps).run Tryd.prog w = .ok (digV D) w :=
  results_cell_row h tmps w g 24 (bytesV D).toArray (0, 0) _ hp hg Tryd.underlying24 rfl (digV_ok D hD).1
def zero32 : List Value := List.replicate 32 (.int .u8 0)
theorem zero32_length : zero32.length = 32 := rfl
/-- A world in which a result's cells, made by the call, lie in block R. -/
structure ResAt (W w : World) (R : Nat) : Prop where
  below : Below W.heap.size W w
  new : W.heap.size ≤ R
  size : R < w.heap.size
  blk : w.heap[R]? = some (.cells zero32.toArray 24 (0, 0))
abbrev Res (W w : World) : Prop := ResAt W w W.heap.size
theorem Res.made (W : World) : Res W (W.alloc (.cells zero32.toArray 24)) := ⟨(Below.refl _ _).alloc (Nat.le_refl _) _, Nat.le_refl _, by simp, heap_alloc_new _ _⟩
theorem ResAt.new' {W w w' : World} {R : Nat} (h : ResAt W w R) (hb : Below w.heap.size w w') : ResAt W w' R :=
  ⟨h.below.trans (hb.mono h.below.size), h.new, Nat.lt_of_lt_of_le h.size hb.size, (hb.block _ h.size).trans h.blk⟩
theorem ResAt.mid {W w w' : World} {R B : Nat} (h : ResAt W w R) (hb : Below B w w') (hB : R < B) : ResAt W w' R :=
  ⟨h.below.trans (hb.mono (by have := h.new; omega)), h.new, Nat.lt_of_lt_of_le h.size hb.size, (hb.block _ hB).trans h.blk⟩
theorem ResAt.done {W w : World} {R : Nat} (h : ResAt W w R) (cs : Array Value) : Below W.heap.size W (w.setRow R cs) := below_setRow h.below _ _ h.new
theorem ResAt.back {W w : World} {R : Nat} (h : ResAt W w R) (cs : Array Value) : (w.setRow R cs).heap[R]? = some (.cells cs 24 (0, 0)) := setRow_heap _ _ _ _ _ _ h.blk
theorem ResAt.there {W w : World} {R : Nat} (h : ResAt W w R) (n : Nat) (hn : n = 32) : w.there R 0 n := by
  subst hn
  exact there_whole h.blk
theorem below_setCells {w w' : World} {B : Nat} (h : Below B w w') (g o : Nat) (vs : List Value) (hg : B ≤ g) : Below B w (w'.setCells g o vs) := by
  obtain ⟨h1, h2, h3, h4⟩ := setCells_same g vs o w'
  exact ⟨h1.trans h.os, h2.trans h.tape, h3.trans h.output, by rw [h4]; exact h.size, fun b hb => (heap_setCells_ne w' g o vs (by omega)).trans (h.block b hb)⟩
/-- Out of a result's cells, written cell by cell. -/
theorem ret_dig_mid {fn : Func} {p : Tmp} (h : fn.results = #[.cell p 24]) (tmps : Array Value) (w : World) (g : Nat) (D : List Nat) (hp : tmps.getD p undef = .pointer (some ⟨g, 0, none⟩)) (hg : w.rangeAt g 0 (bytesV D)) (hD : D.length = 32) :
    (results fn tmps).run Tryd.prog w = .ok (digV D) w := by
  have hp' : tmps[p]?.getD undef = .pointer (some ⟨g, 0, none⟩) := by simpa using hp
  have := run_loadVar_mid (P := Tryd.prog) w g 0 24 (bytesV D) _ hg Tryd.underlying24 rfl (by rw [bytesV_length, hD]; exact dig_info)
  simp [results, h, hp', asAddr, this, digV]
theorem ResAt.mids {W w : World} {R : Nat} (h : ResAt W w R) (D : List Nat) (hD : D.length = 32) : (w.setCells R 0 (bytesV D)).rangeAt R 0 (bytesV D) ∧ Below W.heap.size W (w.setCells R 0 (bytesV D)) :=
  ⟨World.rangeAt_setCells_same w R 0 _ (h.there _ (by rw [bytesV_length, hD])), below_setCells h.below _ _ _ h.new⟩
theorem below_drew {W w : World} (h : Below (W.drew).heap.size W.drew w) : Below W.heap.size W w := ⟨h.os, h.tape, h.output, h.size, h.block⟩
set_option maxRecDepth 100000 in
theorem leaf_any (W : World) (bv : Value) (b : List Nat) (hG : Glob W) (hb : Sees W 1 bv b.length (bytesV b)) (hbb : ∀ x ∈ b, x < 256) (hn : b.length ≤ 10000000) :
    Calls Tryd.prog 12 #[bv] W (SumPost W (Sha.sum (0 :: b))) := by
  obtain ⟨Ab, cb, rfl, -, -⟩ := hb.form
  have H := Lib.hid (And.intro hG (And.intro hb hbb))
  clear hG hb hbb
  go_enter Tryd.func12, Tryd.ntmps12
  go_upto_region 1 with (fail)
  obtain ⟨w1, hw1⟩ : ∃ w1, w1 = W.alloc (.cells zero32.toArray 24) := ⟨_, rfl⟩
  change (Code.region _ _ _).wp _ _ _ (W.alloc (.cells zero32.toArray 24))
  rw [← hw1]
  have hR : Hid (Res W w1) := by rw [hw1]; exact Res.made W
  clear hw1
  have hown : Owns (w1.alloc (.cells #[.int .u8 0] 5)) (w1.heap.size) 1 (.slice (some ⟨w1.heap.size, 0, none⟩) 1 1) 1 [.int .u8 0] := Owns.whole (heap_alloc_new w1 _) (Nat.le_refl _) rfl (by unfold maxLen; omega)
  have hb1 : Below w1.heap.size w1 (w1.alloc (.cells #[.int .u8 0] 5)) := (Below.refl _ _).alloc (Nat.le_refl _) _
  have hsee := (H.out.2.1.new hR.out.below).new hb1
  have HO := Lib.hid (And.intro hown (And.intro hsee hb1))
  clear hown hsee hb1
  go_wp2_with (at_builtin; refine wpList_append rfl (.tmp 3) (.tmp 4) 28 28 rfl w1.heap.size 5 _ 1 1 Tryd.underlying28 infoB _ 1 [.int .u8 0] rfl (by exact HO.out.1) _ b.length (bytesV b) rfl (by exact src_of_sees _ Tryd.underlying28 HO.out.2.1 (bytesV_one b)) (by unfold maxLen; omega) (by omega) (by simp) ?_; intro A2 c2 w2 hown2 hg2 hbl2; have HA := Lib.hid (And.intro hown2 hg2); clear hown2 hg2 hbl2)
  have hb2 : Below w1.heap.size w1 w2 := HO.out.2.2.grown HA.out.2 HO.out.2.2.size (fun k e => by cases e; exact Nat.le_refl _)
  have hs2 : Sees w2 1 (.slice A2 (1 + b.length) c2) (0 :: b).length (bytesV (0 :: b)) := by
    have h := HA.out.1.sees
    rw [show (0 :: b).length = 1 + b.length by simp; omega]
    exact h
  have hc := sum_any w2 _ (0 :: b) (H.out.1.new (hR.out.below.trans (hb2.mono hR.out.below.size))) hs2 (fun x hx => by rcases List.mem_cons.1 hx with rfl | hx; omega; exact H.out.2.2 x hx) (by simp; omega)
  have HC := Lib.hid (And.intro hc hb2)
  clear hc hs2 hb2
  go_wp2_with (first | (go_at_call 32; (with_reducible refine Calls.mono HC.out.1 ?_); rintro e w3 ⟨rfl, hb3⟩; have hR3 : Hid (Res W w3) := (hR.out.new' HC.out.2).new' hb3; clear hb3) | (refine wpList_store_dig rfl (.tmp 2) (.tmp 6) rfl W.heap.size rfl _ rfl (sum_length _) zero32 hR3.out.blk zero32_length ?_))
  exact bodyPost_ret (ret_dig (by rfl) _ _ W.heap.size _ (by rfl) (hR3.out.back _) (sum_length _)) rfl ⟨rfl, hR3.out.done _⟩
theorem half_le_self {n : Nat} : Mk.half n ≤ n ∨ n = 0 := by
  rcases Nat.lt_or_ge n 2 with h | h
  · unfold Mk.half
    match n, h with
    | 0, _ => exact .inr rfl
    | 1, _ => exact .inl (by decide)
  · exact .inl (Nat.le_of_lt (Mk.half_lt h))
set_option maxRecDepth 100000 in
theorem half_any (W : World) (n : Nat) (hn : n ≤ 9223372036854775807) : Calls Tryd.prog 53 #[.int .i64 (n : Int)] W fun e w' => e = .returned (.int .i64 (Mk.half n : Int)) ∧ W = w' := by
  go_enter Tryd.func53, Tryd.ntmps53
  go_wp2_with fail
  go_loop [3] (fun v => ∃ k f : Nat, v = .int .i64 k ∧ 1 ≤ k ∧ k ≤ 9223372036854775807 ∧ n ≤ f + k ∧ Hid (Mk.halfGo f k n = Mk.half n)) (fun v => n - (intOf v).toNat)
  case atStart => exact ⟨1, n, rfl, Nat.le_refl _, by omega, by omega, Lib.hid rfl⟩
  case round =>
    obtain ⟨k, f, rfl, h1, h2, h3, h4⟩ := hrel
    have h1' : (1 : Int) ≤ (k : Int) := by omega
    have h2' : (k : Int) ≤ 9223372036854775807 := by omega
    have hn' : (n : Int) ≤ 9223372036854775807 := by omega
    by_cases h : 2 * k < n
    · have hlt : (k : Int) < (n : Int) - (k : Int) := by omega
      go_wp2_with fail
      go_round
      case rel =>
        refine ⟨2 * k, f - 1, by go_num, by omega, by omega, by omega, ?_⟩
        obtain ⟨f', rfl⟩ : ∃ f', f = f' + 1 := ⟨f - 1, by omega⟩
        have := h4.out
        unfold Mk.halfGo at this
        rw [if_pos h] at this
        exact this
      case measure => simp [intOf]; omega
    · have hge : ¬ (k : Int) < (n : Int) - (k : Int) := by omega
      have hv : Mk.half n = k := by
        have := h4.out
        rw [Mk.halfGo_stop f k n (by omega)] at this
        exact this.symm
      have HV := Lib.hid hv
      clear hv
      go_wp2_with fail
      go_ret
      exact ⟨by rw [HV.out]; rfl, rfl⟩
end Go.Proofs.YtplcjgpmainbnaaDoor.MkW
