/- merkle: Leaf, half. · slices.Grow, slices.Concat of bytes. · merkle.Node. · merkle.root. · merkle.digests, Root. -/
import Derived.Test.YtplcjgpmainbnaaDoorShF
import Derived.Test.YtplcjgpmainbnaaDoorMk
import Derived.Great.BuildSlice
set_option linter.unusedVariables false
set_option linter.unusedSimpArgs false
namespace Go.Proofs.YtplcjgpmainbnaaDoor.MkW
open Go.RowKit OwnS ShaW
attribute [local go_sem ↓] Kit.execOp_call_slot
attribute [local go_sem] Kit.callSlot_func
theorem dig_info : (Tryd.prog.info? 24).map (·.size) = some 32 := by kernel_rfl
theorem dig_infoD (D : List Nat) (h : D.length = 32) : (Tryd.prog.info? 24).map (·.size) = some (bytesV D).length := by rw [bytesV_length, h]; exact dig_info
section
variable {w : World} {ops : Array Oper} {rest : List Oper} {o : Oper} {a : Act} {Q : Exit → Act → World → Prop}
/-- A digest is stored whole. -/
theorem wpList_store_dig (hgd : o.guard = none) (x y : Operand) (ho : o.op = .store 24 x y) (g : Nat) (hx : a.eval x = .pointer (some ⟨g, 0, none⟩)) (D : List Nat) (hy : a.eval y = digV D) (hD : D.length = 32)
    (D0 : List Value) (hg : w.heap[g]? = some (.cells D0.toArray 24 (0, 0))) (h0 : D0.length = 32) (h : wpList Tryd.prog ops Q rest (a.put o.dst undef) (w.setRow g (bytesV D).toArray)) : wpList Tryd.prog ops Q (o :: rest) a w := by
  obtain ⟨o1, o2, o3⟩ := digV_ok D hD
  exact wpList_store_row hgd 24 x y ho g (bytesV D).toArray hx hy 24 D0.toArray hg o1 (by rw [o3, List.size_toArray, h0]) o2 h
/-- A digest is loaded whole. -/
theorem wpList_load_dig (hgd : o.guard = none) (x : Operand) (ho : o.op = .load 24 x) (g p : Nat) (hx : a.eval x = .pointer (some ⟨g, p, none⟩)) (D : List Nat) (hg : w.rangeAt g p (bytesV D)) (hD : D.length = 32)
    (h : wpList Tryd.prog ops Q rest (a.put o.dst (digV D)) w) : wpList Tryd.prog ops Q (o :: rest) a w :=
  wpList_load_mid hgd 24 x ho g p hx (bytesV D) _ hg Tryd.underlying24 rfl (by rw [bytesV_length, hD]; exact dig_info) h
end
theorem run_load_dig (w : World) (g p : Nat) (D : List Nat) (hg : w.rangeAt g p (bytesV D)) (hD : D.length = 32) : (Instr.loadAt 24 (.pointer (some ⟨g, p, none⟩))).run Tryd.prog w = .ok (digV D) w :=
  run_loadAt_mid w g p 24 (bytesV D) _ hg Tryd.underlying24 rfl (by rw [bytesV_length, hD]; exact dig_info)
/-- What comes back out of a result's cells. -/
theorem ret_dig {fn : Func} {p : Tmp} (h : fn.results = #[.cell p 24]) (tmps : Array Value) (w : World) (g : Nat) (D : List Nat) (hp : tmps.getD p undef = .pointer (some ⟨g, 0, none⟩)) (hg : w.heap[g]? = some (.cells (bytesV D).toArray 24 (0, 0))) (hD : D.length = 32) :
    (results fn tmps).run Tryd.prog w = .ok (digV D) w :=
  results_cell_row h tmps w g 24 (bytesV D).toArray (0, 0) _ hp hg Tryd.underlying24 rfl (digV_ok D hD).1
def zero32 : List Value := List.replicate 32 (.int .u8 0)
theorem zero32_length : zero32.length = 32 := rfl
/-- A world in which a result's cells, made by the call, lie in block R. -/
structure ResAt (W w : World) (R : Nat) : Prop where
  below : Below W.heap.size W w
  new : W.heap.size ≤ R
  size : R < w.heap.size
  blk : w.heap[R]? = some (.cells zero32.toArray 24 (0, 0))
abbrev Res (W w : World) : Prop := ResAt W w W.heap.size
theorem Res.made (W : World) : Res W (W.alloc (.cells zero32.toArray 24)) := ⟨(Below.refl _ _).alloc (Nat.le_refl _) _, Nat.le_refl _, by simp, heap_alloc_new _ _⟩
theorem ResAt.new' {W w w' : World} {R : Nat} (h : ResAt W w R) (hb : Below w.heap.size w w') : ResAt W w' R :=
  ⟨h.below.trans (hb.mono h.below.size), h.new, Nat.lt_of_lt_of_le h.size hb.size, (hb.block _ h.size).trans h.blk⟩
theorem ResAt.mid {W w w' : World} {R B : Nat} (h : ResAt W w R) (hb : Below B w w') (hB : R < B) : ResAt W w' R :=
  ⟨h.below.trans (hb.mono (by have := h.new; omega)), h.new, Nat.lt_of_lt_of_le h.size hb.size, (hb.block _ hB).trans h.blk⟩
theorem ResAt.done {W w : World} {R : Nat} (h : ResAt W w R) (cs : Array Value) : Below W.heap.size W (w.setRow R cs) := below_setRow h.below _ _ h.new
theorem ResAt.back {W w : World} {R : Nat} (h : ResAt W w R) (cs : Array Value) : (w.setRow R cs).heap[R]? = some (.cells cs 24 (0, 0)) := setRow_heap _ _ _ _ _ _ h.blk
theorem ResAt.there {W w : World} {R : Nat} (h : ResAt W w R) (n : Nat) (hn : n = 32) : w.there R 0 n := by
  subst hn
  exact there_whole h.blk
theorem below_setCells {w w' : World} {B : Nat} (h : Below B w w') (g o : Nat) (vs : List Value) (hg : B ≤ g) : Below B w (w'.setCells g o vs) := by
  obtain ⟨h1, h2, h3, h4⟩ := setCells_same g vs o w'
  exact ⟨h1.trans h.os, h2.trans h.tape, h3.trans h.output, by rw [h4]; exact h.size, fun b hb => (heap_setCells_ne w' g o vs (by omega)).trans (h.block b hb)⟩
/-- Out of a result's cells, written cell by cell. -/
theorem ret_dig_mid {fn : Func} {p : Tmp} (h : fn.results = #[.cell p 24]) (tmps : Array Value) (w : World) (g : Nat) (D : List Nat) (hp : tmps.getD p undef = .pointer (some ⟨g, 0, none⟩)) (hg : w.rangeAt g 0 (bytesV D)) (hD : D.length = 32) :
    (results fn tmps).run Tryd.prog w = .ok (digV D) w := by
  have hp' : tmps[p]?.getD undef = .pointer (some ⟨g, 0, none⟩) := by simpa using hp
  have := run_loadVar_mid (P := Tryd.prog) w g 0 24 (bytesV D) _ hg Tryd.underlying24 rfl (by rw [bytesV_length, hD]; exact dig_info)
  simp [results, h, hp', asAddr, this, digV]
theorem ResAt.mids {W w : World} {R : Nat} (h : ResAt W w R) (D : List Nat) (hD : D.length = 32) : (w.setCells R 0 (bytesV D)).rangeAt R 0 (bytesV D) ∧ Below W.heap.size W (w.setCells R 0 (bytesV D)) :=
  ⟨World.rangeAt_setCells_same w R 0 _ (h.there _ (by rw [bytesV_length, hD])), below_setCells h.below _ _ _ h.new⟩
theorem below_drew {W w : World} (h : Below (W.drew).heap.size W.drew w) : Below W.heap.size W w := ⟨h.os, h.tape, h.output, h.size, h.block⟩
set_option maxRecDepth 100000 in
theorem leaf_any (W : World) (bv : Value) (b : List Nat) (hG : Glob W) (hb : Sees W 1 bv b.length (bytesV b)) (hbb : ∀ x ∈ b, x < 256) (hn : b.length ≤ 10000000) :
    Calls Tryd.prog 12 #[bv] W (SumPost W (Sha.sum (0 :: b))) := by
  obtain ⟨Ab, cb, rfl, -, -⟩ := hb.form
  have H := Lib.hid (And.intro hG (And.intro hb hbb))
  clear hG hb hbb
  go_enter Tryd.func12, Tryd.ntmps12
  go_upto_region 1 with (fail)
  obtain ⟨w1, hw1⟩ : ∃ w1, w1 = W.alloc (.cells zero32.toArray 24) := ⟨_, rfl⟩
  change (Code.region _ _ _).wp _ _ _ (W.alloc (.cells zero32.toArray 24))
  rw [← hw1]
  have hR : Hid (Res W w1) := by rw [hw1]; exact Res.made W
  clear hw1
  have hown : Owns (w1.alloc (.cells #[.int .u8 0] 5)) (w1.heap.size) 1 (.slice (some ⟨w1.heap.size, 0, none⟩) 1 1) 1 [.int .u8 0] := Owns.whole (heap_alloc_new w1 _) (Nat.le_refl _) rfl (by unfold maxLen; omega)
  have hb1 : Below w1.heap.size w1 (w1.alloc (.cells #[.int .u8 0] 5)) := (Below.refl _ _).alloc (Nat.le_refl _) _
  have hsee := (H.out.2.1.new hR.out.below).new hb1
  have HO := Lib.hid (And.intro hown (And.intro hsee hb1))
  clear hown hsee hb1
  go_wp2_with (at_builtin; refine wpList_append rfl (.tmp 3) (.tmp 4) 28 28 rfl w1.heap.size 5 _ 1 1 Tryd.underlying28 infoB _ 1 [.int .u8 0] rfl (by exact HO.out.1) _ b.length (bytesV b) rfl (by exact src_of_sees _ Tryd.underlying28 HO.out.2.1 (bytesV_one b)) (by unfold maxLen; omega) (by omega) (by simp) ?_; intro A2 c2 w2 hown2 hg2 hbl2; have HA := Lib.hid (And.intro hown2 hg2); clear hown2 hg2 hbl2)
  have hb2 : Below w1.heap.size w1 w2 := HO.out.2.2.grown HA.out.2 HO.out.2.2.size (fun k e => by cases e; exact Nat.le_refl _)
  have hs2 : Sees w2 1 (.slice A2 (1 + b.length) c2) (0 :: b).length (bytesV (0 :: b)) := by
    have h := HA.out.1.sees
    rw [show (0 :: b).length = 1 + b.length by simp; omega]
    exact h
  have hc := sum_any w2 _ (0 :: b) (H.out.1.new (hR.out.below.trans (hb2.mono hR.out.below.size))) hs2 (fun x hx => by rcases List.mem_cons.1 hx with rfl | hx; omega; exact H.out.2.2 x hx) (by simp; omega)
  have HC := Lib.hid (And.intro hc hb2)
  clear hc hs2 hb2
  go_wp2_with (first | (go_at_call 32; (with_reducible refine Calls.mono HC.out.1 ?_); rintro e w3 ⟨rfl, hb3⟩; have hR3 : Hid (Res W w3) := (hR.out.new' HC.out.2).new' hb3; clear hb3) | (refine wpList_store_dig rfl (.tmp 2) (.tmp 6) rfl W.heap.size rfl _ rfl (sum_length _) zero32 hR3.out.blk zero32_length ?_))
  exact bodyPost_ret (ret_dig (by rfl) _ _ W.heap.size _ (by rfl) (hR3.out.back _) (sum_length _)) rfl ⟨rfl, hR3.out.done _⟩
theorem half_le_self {n : Nat} : Mk.half n ≤ n ∨ n = 0 := by
  rcases Nat.lt_or_ge n 2 with h | h
  · unfold Mk.half
    match n, h with
    | 0, _ => exact .inr rfl
    | 1, _ => exact .inl (by decide)
  · exact .inl (Nat.le_of_lt (Mk.half_lt h))
set_option maxRecDepth 100000 in
theorem half_any (W : World) (n : Nat) (hn : n ≤ 9223372036854775807) : Calls Tryd.prog 53 #[.int .i64 (n : Int)] W fun e w' => e = .returned (.int .i64 (Mk.half n : Int)) ∧ W = w' := by
  go_enter Tryd.func53, Tryd.ntmps53
  go_wp2_with fail
  go_loop [3] (fun v => ∃ k f : Nat, v = .int .i64 k ∧ 1 ≤ k ∧ k ≤ 9223372036854775807 ∧ n ≤ f + k ∧ Hid (Mk.halfGo f k n = Mk.half n)) (fun v => n - (intOf v).toNat)
  case atStart => exact ⟨1, n, rfl, Nat.le_refl _, by omega, by omega, Lib.hid rfl⟩
  case round =>
    obtain ⟨k, f, rfl, h1, h2, h3, h4⟩ := hrel
    have h1' : (1 : Int) ≤ (k : Int) := by omega
    have h2' : (k : Int) ≤ 9223372036854775807 := by omega
    have hn' : (n : Int) ≤ 9223372036854775807 := by omega
    by_cases h : 2 * k < n
    · have hlt : (k : Int) < (n : Int) - (k : Int) := by omega
      go_wp2_with fail
      go_round
      case rel =>
        refine ⟨2 * k, f - 1, by go_num, by omega, by omega, by omega, ?_⟩
        obtain ⟨f', rfl⟩ : ∃ f', f = f' + 1 := ⟨f - 1, by omega⟩
        have := h4.out
        unfold Mk.halfGo at this
        rw [if_pos h] at this
        exact this
      case measure => simp [intOf]; omega
    · have hge : ¬ (k : Int) < (n : Int) - (k : Int) := by omega
      have hv : Mk.half n = k := by
        have := h4.out
        rw [Mk.halfGo_stop f k n (by omega)] at this
        exact this.symm
      have HV := Lib.hid hv
      clear hv
      go_wp2_with fail
      go_ret
      exact ⟨by rw [HV.out]; rfl, rfl⟩
end Go.Proofs.YtplcjgpmainbnaaDoor.MkW
set_option linter.unusedVariables false
set_option linter.unusedSimpArgs false
namespace Go.Proofs.YtplcjgpmainbnaaDoor.MkW
open Go.RowKit OwnS ShaW
attribute [local go_sem ↓] Kit.execOp_call_slot
attribute [local go_sem] Kit.callSlot_func
theorem own_first0 {w : World} {base size n c : Nat} {A : Option Addr} {xs : List Value} (h : Owns w base size (.slice A n c) n xs) : Owns w base size (.slice A 0 c) 0 [] := by
  refine ⟨by simp, ?_⟩
  rcases h.2 with ⟨h0, h1⟩ | ⟨g, o, cap, h0, h1, h2, h3, h4, h5, h6⟩
  · injection h0 with e1 e2 e3
    subst e1 e3
    exact .inl ⟨rfl, rfl⟩
  · injection h0 with e1 e2 e3
    subst e1 e3
    exact .inr ⟨g, o, c, rfl, h1, h2, Nat.zero_le _, h4, (fun j u hj => by simp at hj), h6⟩
def GrowPost (W : World) (e : Ending) (w' : World) : Prop := ∃ A c, e = .returned (.slice A 0 c) ∧ Owns w' W.heap.size 1 (.slice A 0 c) 0 [] ∧ Below W.heap.size W w'
set_option maxRecDepth 100000 in
theorem grow_bytes (W : World) (n : Nat) (hn : n ≤ 1000000000) : Calls Tryd.prog 54 #[.slice none 0 0, .int .i64 (n : Int)] W (GrowPost W) := by
  by_cases h0 : n = 0
  · subst h0
    go_enter Tryd.func54, Tryd.ntmps54
    go_wp2_with fail
    go_ret
    exact ⟨none, 0, rfl, Owns.nil _ _ _, Below.refl _ _⟩
  · have h1 : (0 : Int) < (n : Int) := by omega
    go_enter Tryd.func54, Tryd.ntmps54
    go_wp2_with (at_builtin; refine wpList_append_zeros rfl (.tmp 20) (.tmp 21) 28 3 rfl W.heap.size 5 .i64 (.int .u8 0) 1 1 Tryd.underlying28 Tryd.underlying3 infoB _ 0 [] rfl (by exact Owns.nil _ _ _) n rfl (by unfold maxLen; omega) (by omega) (Nat.le_refl _) ?_; intro A c w1 hown hg hbl; have HA := Lib.hid (And.intro hown hg); clear hown hg hbl)
    go_ret
    refine ⟨A, c, rfl, own_first0 (by simpa using HA.out.1), (Below.refl _ _).grown HA.out.2 (Nat.le_refl _) (fun k e => by cases e)⟩
/-- Rows of bytes. -/
structure RowsAt (w : World) (v : Value) (hs : List Value) (ls : List (List Nat)) : Prop where
  sees : Sees w 1 v ls.length hs
  row : ∀ (i : Nat) (l : List Nat), ls[i]? = some l → ∃ h, hs[i]? = some h ∧ Sees w 1 h l.length (bytesV l)
  byte : ∀ l ∈ ls, ∀ x ∈ l, x < 256
theorem RowsAt.new {w w' : World} {v : Value} {hs : List Value} {ls : List (List Nat)} (h : RowsAt w v hs ls) (hb : Below w.heap.size w w') : RowsAt w' v hs ls :=
  ⟨h.sees.new hb, fun i l hl => by obtain ⟨x, h1, h2⟩ := h.row i l hl; exact ⟨x, h1, h2.new hb⟩, h.byte⟩
/-- The i-th row's header, as a walk meets it. -/
theorem RowsAt.cell {w : World} {v : Value} {hs : List Value} {ls : List (List Nat)} (h : RowsAt w v hs ls) {i : Nat} (hi : i < ls.length) : ∃ l g o cap A c, ls[i]? = some l ∧ v = .slice (some ⟨g, o, none⟩) ls.length cap ∧ w.cell? ⟨g, o + i, none⟩ = some (.slice A l.length c) ∧ Sees w 1 (.slice A l.length c) l.length (bytesV l) := by
  obtain ⟨g, o, cap, rfl, -, -, h3⟩ := h.sees.holds (by omega)
  obtain ⟨x, h4, h5⟩ := h.row i _ (List.getElem?_eq_getElem hi)
  obtain ⟨A, c, rfl, -, -⟩ := h5.form
  exact ⟨ls[i], g, o, cap, A, c, List.getElem?_eq_getElem hi, rfl, h3 i _ h4, h5⟩
def lens (ls : List (List Nat)) : Nat := (ls.map List.length).sum
theorem lens_take {ls : List (List Nat)} {i : Nat} {l : List Nat} (h : ls[i]? = some l) : lens (ls.take (i + 1)) = lens (ls.take i) + l.length := by
  obtain ⟨hi, rfl⟩ := List.getElem?_eq_some_iff.1 h
  unfold lens
  rw [List.take_succ_eq_append_getElem hi, List.map_append, List.sum_append]
  simp
theorem lens_flat (ls : List (List Nat)) : lens ls = ls.flatten.length := by unfold lens; rw [List.length_flatten]
theorem lens_le (ls : List (List Nat)) (i : Nat) : lens (ls.take i) ≤ lens ls := by
  conv => rhs; rw [← List.take_append_drop i ls]
  unfold lens
  rw [List.map_append, List.sum_append]
  omega
theorem flat_take {ls : List (List Nat)} {i : Nat} {l : List Nat} (h : ls[i]? = some l) : (ls.take (i + 1)).flatten = (ls.take i).flatten ++ l := by
  obtain ⟨hi, rfl⟩ := List.getElem?_eq_some_iff.1 h
  rw [List.take_succ_eq_append_getElem hi, List.flatten_append]
  simp
def ConcatPost (W : World) (b : List Nat) (e : Ending) (w' : World) : Prop := ∃ A c, e = .returned (.slice A b.length c) ∧ Sees w' 1 (.slice A b.length c) b.length (bytesV b) ∧ Below W.heap.size W w'
set_option maxRecDepth 100000 in
set_option maxHeartbeats 1000000 in
theorem concat_bytes (W : World) (v : Value) (hs : List Value) (ls : List (List Nat)) (h : RowsAt W v hs ls) (hn : ls.length ≤ 1000000) (hl : lens ls ≤ 100000000) : Calls Tryd.prog 38 #[v] W (ConcatPost W ls.flatten) := by
  obtain ⟨A, c, rfl, -, -⟩ := h.sees.form
  have H := Lib.hid h
  clear h
  go_enter Tryd.func38, Tryd.ntmps38
  go_wp2_with fail
  go_loop [3, 11] (fun vs vi => ∃ i : Nat, i ≤ ls.length ∧ vi = .int .i64 i ∧ vs = .int .i64 (lens (ls.take i) : Int)) (fun _ vi => ls.length - (intOf vi).toNat)
  case atStart => exact ⟨0, Nat.zero_le _, rfl, rfl⟩
  case round =>
    obtain ⟨i, hi, rfl, rfl⟩ := hrel
    by_cases hlt : i < ls.length
    · obtain ⟨l, g, o, cap, A', c', hl', hv, hc, -⟩ := H.out.cell hlt
      injection hv with e1 e2 e3
      subst e1 e3
      clear e2
      have hle2 := lens_le ls (i + 1)
      rw [lens_take hl'] at hle2
      have hp : (lens (ls.take i) : Int) + (l.length : Int) ≤ 100000000 := by omega
      have hp0 : (0 : Int) ≤ (lens (ls.take i) : Int) := by omega
      have HS := Lib.hid hl'
      clear hl' hle2
      go_wp2_with fail
      go_round
      case rel => exact ⟨i + 1, by omega, by go_num, by rw [lens_take HS.out]; go_num⟩
      case measure => simp [intOf]; omega
    · obtain rfl : i = ls.length := by omega
      rw [List.take_length]
      have HG := Lib.hid (grow_bytes W (lens ls) (by omega))
      go_wp2_with (go_at_call 54; (with_reducible refine Calls.mono HG.out ?_); rintro e w1 ⟨A1, c1, rfl, hown, hb⟩; have H1 := Lib.hid (And.intro hown hb); clear hown hb)
      go_loopw [6, 27] (fun vo vi wr => ∃ (i : Nat) (A2 : Option Addr) (c2 : Nat), i ≤ ls.length ∧ vi = .int .i64 i ∧ vo = .slice A2 (lens (ls.take i)) c2 ∧ Hid (Owns wr W.heap.size 1 (.slice A2 (lens (ls.take i)) c2) (lens (ls.take i)) (bytesV (ls.take i).flatten) ∧ Below W.heap.size W wr)) (fun _ vi _ => ls.length - (intOf vi).toNat)
      case atStart => exact ⟨0, A1, c1, Nat.zero_le _, rfl, rfl, H1⟩
      case round =>
        obtain ⟨i, A2, c2, hi, rfl, rfl, hI⟩ := hrel
        by_cases hlt : i < ls.length
        · obtain ⟨l, g, o, cap, A', c', hl', hv, hc, hse⟩ := (H.out.new hI.out.2).cell hlt
          injection hv with e1 e2 e3
          subst e1 e3
          clear e2
          have hle2 := lens_le ls (i + 1)
          rw [lens_take hl'] at hle2
          have HS := Lib.hid (And.intro hl' hse)
          clear hl' hse
          go_wp2_with (at_builtin; refine wpList_append rfl (.tmp 31) (.tmp 32) 28 28 rfl W.heap.size 5 _ 1 1 Tryd.underlying28 infoB _ (lens (ls.take i)) (bytesV (ls.take i).flatten) rfl (by exact hI.out.1) _ l.length (bytesV l) rfl (by exact src_of_sees _ Tryd.underlying28 HS.out.2 (bytesV_one l)) (by unfold maxLen; omega) (by omega) (by exact hI.out.2.size) ?_; intro A3 c3 w3 hown3 hg3 hbl3; have HA := Lib.hid (And.intro hown3 hg3); clear hown3 hg3 hbl3)
          go_roundw
          case rel =>
            refine ⟨i + 1, A3, c3, by omega, by go_num, by rw [lens_take HS.out.1], ?_⟩
            rw [lens_take HS.out.1, flat_take HS.out.1, bytesV_append]
            exact ⟨HA.out.1, hI.out.2.grown HA.out.2 hI.out.2.size (fun k e => (hI.out.1.lt k e).1)⟩
          case measure => simp [intOf]; omega
        · obtain rfl : i = ls.length := by omega
          rw [List.take_length] at hI ⊢
          go_wp2_with fail
          go_ret
          refine ⟨A2, c2, ?_, ?_, hI.out.2⟩
          · rw [← lens_flat]; rfl
          · rw [← lens_flat]; exact hI.out.1.sees
end Go.Proofs.YtplcjgpmainbnaaDoor.MkW
set_option linter.unusedVariables false
set_option linter.unusedSimpArgs false
namespace Go.Proofs.YtplcjgpmainbnaaDoor.MkW
open Go.RowKit OwnS ShaW
attribute [local go_sem ↓] Kit.execOp_call_slot
attribute [local go_sem] Kit.callSlot_func
/-- A digest: 32 bytes. -/
def Dig (d : List Nat) : Prop := d.length = 32 ∧ ∀ x ∈ d, x < 256
theorem dig_sum (b : List Nat) : Dig (Sha.sum b) := ⟨sum_length b, sum_byte b⟩
theorem dig_node (a b : List Nat) : Dig (Mk.nodeH Sha.sum a b) := dig_sum _
theorem sees_block {w : World} {g : Nat} {l : List Nat} {t : TypeId} (h : w.heap[g]? = some (.cells (bytesV l).toArray t (0, 0))) (hl : l.length ≤ 1000000) : Sees w 1 (.slice (some ⟨g, 0, none⟩) l.length l.length) l.length (bytesV l) :=
  (Owns.whole (base := 0) h (Nat.zero_le _) (by rw [bytesV_length]; omega) (by unfold maxLen; omega)).sees
set_option maxRecDepth 100000 in
set_option maxHeartbeats 1000000 in
theorem node_any (W : World) (a b : List Nat) (hG : Glob W) (ha : Dig a) (hb : Dig b) : Calls Tryd.prog 16 #[digV a, digV b] W (SumPost W (Mk.nodeH Sha.sum a b)) := by
  obtain ⟨D, hD⟩ : ∃ D, D = Mk.nodeH Sha.sum a b := ⟨_, rfl⟩
  rw [← hD]
  have H := Lib.hid (And.intro hG (And.intro ha (And.intro hb hD)))
  clear hG ha hb hD
  unfold digV
  go_enter Tryd.func16, Tryd.ntmps16
  go_upto_region 1 with (fail)
  obtain ⟨w1, hw1⟩ : ∃ w1, w1 = ((W.alloc (.cells (bytesV a).toArray 24)).alloc (.cells (bytesV b).toArray 24)).alloc (.cells zero32.toArray 24) := ⟨_, rfl⟩
  change (Code.region _ _ _).wp _ _ _ (((W.alloc (.cells (bytesV a).toArray 24)).alloc (.cells (bytesV b).toArray 24)).alloc (.cells zero32.toArray 24))
  rw [← hw1]
  obtain ⟨R, hR⟩ : ∃ R, R = W.heap.size + 1 + 1 := ⟨_, rfl⟩
  rw [← hR]
  have hs1 : w1.heap.size = R + 1 := by rw [hw1, hR]; simp
  have hR1 : ResAt W w1 R := by
    rw [hw1, hR]
    refine ⟨(((Below.refl _ _).alloc (Nat.le_refl _) _).alloc (by simp) _).alloc (by simp; omega) _, by omega, by simp, ?_⟩
    have := heap_alloc_new ((W.alloc (.cells (bytesV a).toArray 24)).alloc (.cells (bytesV b).toArray 24)) (.cells zero32.toArray 24)
    simpa using this
  have hA1 : w1.heap[W.heap.size]? = some (.cells (bytesV a).toArray 24 (0, 0)) := by
    rw [hw1, Below.heap_alloc _ _ _ (by simp; omega), Below.heap_alloc _ _ _ (by simp)]
    exact heap_alloc_new _ _
  have hB1 : w1.heap[W.heap.size + 1]? = some (.cells (bytesV b).toArray 24 (0, 0)) := by
    rw [hw1, Below.heap_alloc _ _ _ (by simp)]
    have := heap_alloc_new (W.alloc (.cells (bytesV a).toArray 24)) (.cells (bytesV b).toArray 24)
    simpa using this
  have hsA := sees_block hA1 (by rw [H.out.2.1.1]; omega)
  have hsB := sees_block hB1 (by rw [H.out.2.2.1.1]; omega)
  rw [H.out.2.1.1] at hsA
  rw [H.out.2.2.1.1] at hsB
  have H1 := Lib.hid (And.intro hs1 (And.intro hR1 (And.intro hsA hsB)))
  clear hs1 hR1 hsA hsB hA1 hB1 hw1 hR
  obtain ⟨w2, hw2⟩ : ∃ w2, w2 = ((w1.alloc (.cells #[.int .u8 1] 5)).alloc (.cells #[.slice (some ⟨w1.heap.size, 0, none⟩) 1 1, .slice (some ⟨W.heap.size, 0, none⟩) 32 32, .slice (some ⟨W.heap.size + 1, 0, none⟩) 32 32] 28)).drew := ⟨_, rfl⟩
  have hb2 : Below w1.heap.size w1 w2 := by rw [hw2]; exact (((Below.refl _ _).alloc (Nat.le_refl _) _).alloc (by simp) _).drew
  have hrows : RowsAt w2 (.slice (some ⟨w1.heap.size + 1, 0, none⟩) 3 3) [.slice (some ⟨w1.heap.size, 0, none⟩) 1 1, .slice (some ⟨W.heap.size, 0, none⟩) 32 32, .slice (some ⟨W.heap.size + 1, 0, none⟩) 32 32] [[1], a, b] := by
    have hk0 : w2.heap[w1.heap.size]? = some (.cells (bytesV [1]).toArray 5 (0, 0)) := by
      rw [hw2]
      show ((w1.alloc (.cells #[.int .u8 1] 5)).alloc _).heap[w1.heap.size]? = _
      rw [Below.heap_alloc _ _ _ (by simp)]
      exact heap_alloc_new _ _
    have hk1 : w2.heap[w1.heap.size + 1]? = some (.cells ([.slice (some ⟨w1.heap.size, 0, none⟩) 1 1, .slice (some ⟨W.heap.size, 0, none⟩) 32 32, .slice (some ⟨W.heap.size + 1, 0, none⟩) 32 32] : List Value).toArray 28 (0, 0)) := by
      rw [hw2]
      have := heap_alloc_new (w1.alloc (.cells #[.int .u8 1] 5)) (.cells #[.slice (some ⟨w1.heap.size, 0, none⟩) 1 1, .slice (some ⟨W.heap.size, 0, none⟩) 32 32, .slice (some ⟨W.heap.size + 1, 0, none⟩) 32 32] 28)
      have e : (w1.alloc (.cells #[.int .u8 1] 5)).heap.size = w1.heap.size + 1 := by simp
      rw [e] at this
      exact this
    refine ⟨(Owns.whole (base := 0) (size := 1) (k := 3) hk1 (Nat.zero_le _) rfl (by unfold maxLen; omega)).sees, fun i l hl => ?_, fun l hl x hx => ?_⟩
    · match i, hl with
      | 0, hl => injection hl with hl; subst hl; exact ⟨_, rfl, sees_block hk0 (by simp)⟩
      | 1, hl => injection hl with hl; subst hl; exact ⟨_, rfl, by rw [H.out.2.1.1]; exact H1.out.2.2.1.new hb2⟩
      | 2, hl => injection hl with hl; subst hl; exact ⟨_, rfl, by rw [H.out.2.2.1.1]; exact H1.out.2.2.2.new hb2⟩
    · simp only [List.mem_cons, List.not_mem_nil, or_false] at hl
      rcases hl with rfl | rfl | rfl
      · simp at hx; omega
      · exact H.out.2.1.2 x hx
      · exact H.out.2.2.1.2 x hx
  have hc := concat_bytes w2 _ _ _ hrows (by simp) (by unfold lens; simp [H.out.2.1.1, H.out.2.2.1.1])
  have hfl : ([[1], a, b] : List (List Nat)).flatten = Mk.nodeB a b := by simp [Mk.nodeB]
  rw [hfl, hw2] at hc
  rw [hw2] at hb2
  have HC := Lib.hid (And.intro hc hb2)
  clear hc hb2 hrows hfl hw2
  go_region_held3 (fun w' => True) (trivial) (first | (go_at_call 38; (with_reducible refine Calls.mono HC.out.1 ?_); rintro e w3 ⟨A3, c3, rfl, hs3, hb3⟩; have hR3 : ResAt W w3 R := (H1.out.2.1.new' HC.out.2).new' hb3; have hc3 := sum_any w3 _ (Mk.nodeB a b) (H.out.1.new hR3.below) hs3 (fun x hx => by rcases List.mem_cons.1 hx with rfl | hx; omega; rcases List.mem_append.1 hx with hx | hx; exact H.out.2.1.2 x hx; exact H.out.2.2.1.2 x hx) (by unfold Mk.nodeB; simp [H.out.2.1.1, H.out.2.2.1.1]); have H3 := Lib.hid (And.intro hc3 hR3); clear hc3 hR3 hs3 hb3) | (go_at_call 32; (with_reducible refine Calls.mono H3.out.1 ?_); rintro e w4 ⟨rfl, hb4⟩; have hR4 : Hid (ResAt W w4 R) := H3.out.2.new' hb4; have o1 := bytesV_one (Sha.sum (Mk.nodeB a b)); have o2 : w4.there R 0 (bytesV (Sha.sum (Mk.nodeB a b))).length := hR4.out.there _ (by rw [bytesV_length, sum_length]); have o3 := dig_infoD (Sha.sum (Mk.nodeB a b)) (sum_length _); clear hb4))
  clear o1 o2 o3
  go_wp2_with fail
  have hm := hR4.out.mids (Sha.sum (Mk.nodeB a b)) (sum_length _)
  refine bodyPost_ret (ret_dig_mid (by rfl) _ _ R _ (by rfl) hm.1 (sum_length _)) rfl ⟨?_, hm.2⟩
  rw [H.out.2.2.2]
  rfl
end Go.Proofs.YtplcjgpmainbnaaDoor.MkW
set_option linter.unusedVariables false
set_option linter.unusedSimpArgs false
namespace Go.Proofs.YtplcjgpmainbnaaDoor.MkW
open Go.RowKit OwnS ShaW
attribute [local go_sem ↓] Kit.execOp_call_slot
attribute [local go_sem] Kit.callSlot_func
/-- A list of digests. -/
structure DigsAt (w : World) (v : Value) (ds : List (List Nat)) : Prop where
  sees : Sees w 32 v ds.length (bytesV ds.flatten)
  dig : ∀ d ∈ ds, Dig d
theorem DigsAt.new {w w' : World} {v : Value} {ds : List (List Nat)} (h : DigsAt w v ds) (hb : Below w.heap.size w w') : DigsAt w' v ds := ⟨h.sees.new hb, h.dig⟩
theorem flat32 : ∀ {ds : List (List Nat)}, (∀ d ∈ ds, Dig d) → ds.flatten.length = 32 * ds.length
  | [], _ => rfl
  | d :: ds, h => by
    have h1 := (h d (List.mem_cons_self ..)).1
    have h2 := flat32 fun x hx => h x (List.mem_cons_of_mem _ hx)
    simp only [List.flatten_cons, List.length_append, List.length_cons, h1, h2]
    omega
theorem flat_take32 : ∀ {ds : List (List Nat)} (k : Nat), (∀ d ∈ ds, Dig d) → ds.flatten.take (32 * k) = (ds.take k).flatten
  | [], k, _ => by simp
  | d :: ds, 0, _ => by simp
  | d :: ds, k + 1, h => by
    have h1 := (h d (List.mem_cons_self ..)).1
    have h2 := flat_take32 k fun x hx => h x (List.mem_cons_of_mem _ hx)
    rw [List.flatten_cons, List.take_append, List.take_succ_cons, List.flatten_cons, ← h2, h1, List.take_of_length_le (by omega), show 32 * (k + 1) - 32 = 32 * k by omega]
theorem flat_drop32 : ∀ {ds : List (List Nat)} (k : Nat), (∀ d ∈ ds, Dig d) → ds.flatten.drop (32 * k) = (ds.drop k).flatten
  | [], k, _ => by simp
  | d :: ds, 0, _ => by simp
  | d :: ds, k + 1, h => by
    have h1 := (h d (List.mem_cons_self ..)).1
    have h2 := flat_drop32 k fun x hx => h x (List.mem_cons_of_mem _ hx)
    rw [List.flatten_cons, List.drop_append, List.drop_succ_cons, ← h2, h1, List.drop_eq_nil_of_le (by omega), show 32 * (k + 1) - 32 = 32 * k by omega]
    rfl
theorem flat_at32 {ds : List (List Nat)} (h : ∀ d ∈ ds, Dig d) {i : Nat} {d : List Nat} (hi : ds[i]? = some d) : (ds.flatten.drop (32 * i)).take 32 = d := by
  obtain ⟨h1, rfl⟩ := List.getElem?_eq_some_iff.1 hi
  rw [flat_drop32 i h, List.drop_eq_getElem_cons h1, List.flatten_cons]
  have := (h _ (List.getElem_mem h1)).1
  rw [List.take_append_of_le_length (by omega), List.take_of_length_le (by omega)]
/-- The i-th digest. -/
theorem DigsAt.cell {w : World} {v : Value} {ds : List (List Nat)} (h : DigsAt w v ds) {i : Nat} (hi : i < ds.length) : ∃ d g o cap, ds[i]? = some d ∧ Dig d ∧ v = .slice (some ⟨g, o, none⟩) ds.length cap ∧ ds.length ≤ cap ∧ w.rangeAt g (o + i * 32) (bytesV d) := by
  obtain ⟨g, o, cap, rfl, h1, -, h3⟩ := h.sees.holds (by omega)
  refine ⟨ds[i], g, o, cap, List.getElem?_eq_getElem hi, h.dig _ (List.getElem_mem hi), rfl, h1, ?_⟩
  have := rangeAt_take (k := 32) (rangeAt_drop (k := i * 32) h3)
  rw [bytesV_drop, bytesV_take, Nat.mul_comm, flat_at32 h.dig (List.getElem?_eq_getElem hi)] at this
  rw [Nat.mul_comm]
  exact this
theorem DigsAt.take {w : World} {g o cap k n : Nat} {ds : List (List Nat)} (h : DigsAt w (.slice (some ⟨g, o, none⟩) n cap) ds) (hk : k ≤ ds.length) (c : Nat) (hc : k ≤ c ∧ c ≤ cap) : DigsAt w (.slice (some ⟨g, o, none⟩) k c) (ds.take k) := by
  have hl : (ds.take k).length = k := by rw [List.length_take]; omega
  refine ⟨?_, fun d hd => h.dig d (List.mem_of_mem_take hd)⟩
  refine ⟨by rw [bytesV_length, flat32 fun d hd => h.dig d (List.mem_of_mem_take hd), hl]; omega, ?_⟩
  rcases h.sees.2 with ⟨h0, A', cap', e, hm⟩ | ⟨g', o', cap', h0, h1, h2, h3⟩
  · injection e with e1 e2 e3
    subst e3
    obtain rfl : k = 0 := by omega
    exact .inl ⟨by rw [hl], _, _, rfl, by omega⟩
  · injection h0 with e1 e2 e3
    injection e1 with e1
    injection e1 with e1 e4
    subst e1 e3 e4
    refine .inr ⟨g, o, c, by rw [hl], by omega, by omega, ?_⟩
    have := rangeAt_take (k := 32 * k) h3
    rwa [bytesV_take, flat_take32 k h.dig] at this
theorem DigsAt.drop {w : World} {g o cap k n : Nat} {ds : List (List Nat)} (h : DigsAt w (.slice (some ⟨g, o, none⟩) n cap) ds) (hk : k ≤ ds.length) (a : Addr) (ha : (cap = k ∧ a = ⟨g, o, none⟩) ∨ a = ⟨g, o + k * 32, none⟩) : DigsAt w (.slice (some a) (ds.length - k) (cap - k)) (ds.drop k) := by
  have hl : (ds.drop k).length = ds.length - k := by simp
  refine ⟨?_, fun d hd => h.dig d (List.mem_of_mem_drop hd)⟩
  refine ⟨by rw [bytesV_length, flat32 fun d hd => h.dig d (List.mem_of_mem_drop hd)]; omega, ?_⟩
  rcases h.sees.2 with ⟨h0, A', cap', e, hm⟩ | ⟨g', o', cap', h0, h1, h2, h3⟩
  · injection e with e1 e2 e3
    subst e3
    exact .inl ⟨by rw [hl]; omega, _, _, by rw [h0, Nat.zero_sub], by omega⟩
  · injection h0 with e1 e2 e3
    injection e1 with e1
    injection e1 with e1 e4
    subst e1 e3 e4
    rcases ha with ⟨hcap, rfl⟩ | rfl
    · have h4 : ds.length = k := by omega
      refine .inr ⟨g, o, _, by rw [hl], by omega, by omega, ?_⟩
      intro j u hj
      rw [List.drop_eq_nil_of_le (by omega)] at hj
      simp [bytesV] at hj
    · refine .inr ⟨g, _, _, by rw [hl], by omega, by omega, ?_⟩
      have := rangeAt_drop (k := 32 * k) h3
      rw [bytesV_drop, flat_drop32 k h.dig] at this
      rw [Nat.mul_comm]
      exact this
theorem DigsAt.form {w : World} {v : Value} {ds : List (List Nat)} (h : DigsAt w v ds) : ∃ A c, v = .slice A ds.length c ∧ ds.length ≤ c ∧ c ≤ maxLen := h.sees.form
/-- The root of digests. -/
abbrev rootN (ds : List (List Nat)) : List Nat := Mk.root (Sha.sum [2]) (Mk.nodeH Sha.sum) ds
theorem dig_root : ∀ (n : Nat) (ds : List (List Nat)), ds.length ≤ n → (∀ d ∈ ds, Dig d) → Dig (rootN ds) := by
  intro n ds hn h
  match ds, h with
  | [], _ => unfold rootN; rw [Mk.root_nil]; exact dig_sum _
  | [d], h => unfold rootN; rw [Mk.root_one]; exact h d (List.mem_cons_self ..)
  | a :: b :: r, _ => unfold rootN; rw [Mk.root_split _ _ (by simp)]; exact dig_node _ _
/-- A contract that answers by value, within a class of worlds. -/
theorem in_class {w : World} {f : FuncId} {args : Array Value} {D : List Nat} {I : Type} {F : I → World} (hF : ∀ i, Below w.heap.size w (F i)) (hFi : ∀ w', Below w.heap.size w w' → ∃ i, w' = F i) (i : I) (h : Calls Tryd.prog f args (F i) (SumPost (F i) D)) :
    Calls Tryd.prog f args (F i) (fun e w'' => e = .returned (digV D) ∧ ∃ j, w'' = F j) :=
  h.mono fun e w'' ⟨he, hw⟩ => ⟨he, hFi _ ((hF i).trans (hw.mono (hF i).size))⟩
set_option maxRecDepth 100000 in
theorem root_none (W : World) (v : Value) (hG : Glob W) (h : DigsAt W v []) : Calls Tryd.prog 35 #[v] W (SumPost W (Sha.sum [2])) := by
  obtain ⟨A, c, rfl, -, -⟩ := h.form
  clear h
  go_enter Tryd.func35, Tryd.ntmps35
  go_upto_region 1 with (fail)
  obtain ⟨w1, hw1⟩ : ∃ w1, w1 = W.alloc (.cells zero32.toArray 24) := ⟨_, rfl⟩
  change (Code.region _ _ _).wp _ _ _ (W.alloc (.cells zero32.toArray 24))
  rw [← hw1]
  have hR : Hid (Res W w1) := by rw [hw1]; exact Res.made W
  clear hw1
  have hb2 : Below w1.heap.size w1 (w1.alloc (.cells #[.int .u8 2] 5)) := (Below.refl _ _).alloc (Nat.le_refl _) _
  have hc := sum_any (w1.alloc (.cells #[.int .u8 2] 5)) (.slice (some ⟨w1.heap.size, 0, none⟩) 1 1) [2] ((hG.new hR.out.below).new hb2) (sees_block (l := [2]) (heap_alloc_new w1 _) (by simp)) (fun x hx => by simp at hx; omega) (by simp)
  have HC := Lib.hid (And.intro hc hb2)
  clear hc hb2 hG
  go_wp2_with (first | (go_at_call 32; (with_reducible refine Calls.mono HC.out.1 ?_); rintro e w3 ⟨rfl, hb3⟩; have hR3 : Hid (Res W w3) := (hR.out.new' HC.out.2).new' hb3; clear hb3) | (refine wpList_store_dig rfl (.tmp 2) (.tmp 9) rfl W.heap.size rfl _ rfl (sum_length _) zero32 hR3.out.blk zero32_length ?_))
  exact bodyPost_ret (ret_dig (by rfl) _ _ W.heap.size _ (by rfl) (hR3.out.back _) (sum_length _)) rfl ⟨rfl, hR3.out.done _⟩
set_option maxRecDepth 100000 in
theorem root_one (W : World) (v : Value) (d : List Nat) (h : DigsAt W v [d]) : Calls Tryd.prog 35 #[v] W (SumPost W d) := by
  obtain ⟨d', g, o, cap, hd, hdd, rfl, hcap, hr⟩ := h.cell (i := 0) (by simp)
  injection hd with hd
  subst hd
  have hl := hdd.1
  simp only [Nat.zero_mul, Nat.add_zero] at hr
  clear h
  go_enter Tryd.func35, Tryd.ntmps35
  go_upto_region 1 with (fail)
  obtain ⟨w1, hw1⟩ : ∃ w1, w1 = W.alloc (.cells zero32.toArray 24) := ⟨_, rfl⟩
  change (Code.region _ _ _).wp _ _ _ (W.alloc (.cells zero32.toArray 24))
  rw [← hw1]
  have hR : Hid (Res W w1) := by rw [hw1]; exact Res.made W
  have hr1 : Hid (w1.rangeAt g o (bytesV d)) := by rw [hw1]; exact World.rangeAt_alloc hr _
  have HL := Lib.hid hl
  clear hw1 hr hl hdd
  go_wp2_with (first | (refine wpList_load_dig rfl (.tmp 13) rfl g o rfl d hr1.out HL.out ?_) | (refine wpList_store_dig rfl (.tmp 2) (.tmp 14) rfl W.heap.size rfl _ rfl HL.out zero32 hR.out.blk zero32_length ?_))
  exact bodyPost_ret (ret_dig (by rfl) _ _ W.heap.size _ (by rfl) (hR.out.back _) HL.out) rfl ⟨rfl, hR.out.done _⟩
set_option maxRecDepth 100000 in
set_option maxHeartbeats 2000000 in
theorem root_more (N : Nat) (ih : ∀ (W : World) (v : Value) (ds : List (List Nat)), ds.length ≤ N → ds.length ≤ 1000000000 → Glob W → DigsAt W v ds → Calls Tryd.prog 35 #[v] W (SumPost W (rootN ds)))
    (W : World) (v : Value) (ds : List (List Nat)) (hN : ds.length ≤ N + 1) (h2 : 2 ≤ ds.length) (hNM : N ≤ 1000000000) (hM : ds.length ≤ 1000000000) (hG : Glob W) (h : DigsAt W v ds) : Calls Tryd.prog 35 #[v] W (SumPost W (rootN ds)) := by
  obtain ⟨D, hD⟩ : ∃ D, D = rootN ds := ⟨_, rfl⟩
  rw [← hD]
  obtain ⟨g, o, cap, rfl, hc1, -, -⟩ := h.sees.holds (by omega)
  have hk1 := Mk.half_pos ds.length
  have hk2 := Mk.half_lt h2
  obtain ⟨k, hk⟩ : ∃ k, k = Mk.half ds.length := ⟨_, rfl⟩
  rw [← hk] at hk1 hk2
  have H := Lib.hid (And.intro hG (And.intro h (And.intro hD (And.intro hk ih))))
  clear hG h hD ih
  have z0 : ¬ ((ds.length : Int) = 0) := by omega
  have z1 : ¬ ((ds.length : Int) = 1) := by omega
  have y0 : ¬ (ds.length = 0) := by omega
  have y1 : ¬ (ds.length = 1) := by omega
  have HH := Lib.hid (half_any W ds.length (by omega))
  rw [← hk] at HH
  clear hk
  go_enter Tryd.func35, Tryd.ntmps35
  go_upto_region 1 with (fail)
  obtain ⟨w1, hw1⟩ : ∃ w1, w1 = W.alloc (.cells zero32.toArray 24) := ⟨_, rfl⟩
  change (Code.region _ _ _).wp _ _ _ (W.alloc (.cells zero32.toArray 24))
  rw [← hw1]
  have hR : Hid (Res W w1) := by rw [hw1]; exact Res.made W
  clear hw1
  have HH := Lib.hid (half_any w1 ds.length (by omega))
  rw [← H.out.2.2.2.1] at HH
  go_upto_region 7 with (go_at_call 53; (with_reducible refine Calls.mono HH.out ?_); rintro e w' ⟨rfl, rfl⟩)
  have hw1 : Below W.heap.size W w1 := hR.out.below
  have h1 : DigsAt w1 (.slice (some ⟨g, o, none⟩) ds.length cap) ds := H.out.2.1.new hw1
  have D1 := h1.take (k := k) (by omega) cap ⟨by omega, Nat.le_refl _⟩
  have D2 := h1.drop (k := k) (by omega) ⟨g, o + k * 32, none⟩ (.inr rfl)
  have hck : ¬ cap = k := by omega
  have i1 : (0 : Int) ≤ (k : Int) := by omega
  have i2 : (k : Int) ≤ (cap : Int) := by omega
  have i3 : (k : Int) ≤ (ds.length : Int) := by omega
  have hcall := fun (I : Type) (F : I → World) (hF : ∀ i, Below w1.heap.size w1 (F i)) (hFi : ∀ w', Below w1.heap.size w1 w' → ∃ i, w' = F i) (v : Value) (es : List (List Nat)) (he : DigsAt w1 v es) (hl : es.length ≤ N) (hm : es.length ≤ 1000000000) (i : I) =>
    in_class (f := 35) hF hFi i (H.out.2.2.2.2 (F i) v es hl hm ((H.out.1.new hw1).new (hF i)) (he.new (hF i)))
  have hnode := fun (I : Type) (F : I → World) (hF : ∀ i, Below w1.heap.size w1 (F i)) (hFi : ∀ w', Below w1.heap.size w1 w' → ∃ i, w' = F i) (a b : List Nat) (ha : Dig a) (hb : Dig b) (i : I) =>
    in_class (f := 16) hF hFi i (node_any (F i) a b ((H.out.1.new hw1).new (hF i)) ha hb)
  have g1 := dig_root _ (ds.take k) (Nat.le_refl _) D1.dig
  have g2 := dig_root _ (ds.drop k) (Nat.le_refl _) D2.dig
  have l1 : (ds.take k).length ≤ N := by rw [List.length_take]; omega
  have l2 : (ds.drop k).length ≤ N := by rw [List.length_drop]; omega
  have HC := Lib.hid (And.intro hcall hnode)
  have HD := Lib.hid (And.intro D1 (And.intro D2 (And.intro g1 (And.intro g2 (And.intro l1 l2)))))
  have HN : Hid (N ≤ 1000000000) := hNM
  clear hcall hnode D1 D2 g1 g2 l1 l2 h1 hw1 HH
  refine QTail.wp_region_below_tail 9 w1.heap.size (by kernel_rfl) (by kernel_rfl) ?_
  intro I hNI F hF hFi
  have HF := Lib.hid (And.intro (HC.out.1 I F hF hFi) (And.intro (HC.out.2 I F hF hFi) hF))
  clear hF hFi
  simp only [List.take_succ_cons, List.take_zero, List.drop_succ_cons, List.drop_zero]
  repeat (go_big_quiet_step ((first | (go_at_call 35; exact HF.out.1 _ _ (by first | exact HD.out.1 | exact HD.out.2.1) (by first | exact HD.out.2.2.2.2.1 | exact HD.out.2.2.2.2.2) (by first | exact Nat.le_trans HD.out.2.2.2.2.1 HN.out | exact Nat.le_trans HD.out.2.2.2.2.2 HN.out) _) | (go_at_call 16; exact HF.out.2.1 _ _ HD.out.2.2.1 HD.out.2.2.2.1 _))))
  refine wpQuiet_nil ?_
  intro w4 hw'
  obtain ⟨j, hw''⟩ := hw'
  have hR4 : Hid (Res W w4) := by rw [hw'']; exact hR.out.new' (HF.out.2.2 j)
  clear hw''
  go_wp2_with (refine wpList_store_dig rfl (.tmp 2) (.tmp 26) rfl W.heap.size rfl _ rfl (dig_node _ _).1 zero32 hR4.out.blk zero32_length ?_)
  refine bodyPost_ret (ret_dig (by rfl) _ _ W.heap.size _ (by rfl) (hR4.out.back _) (dig_node _ _).1) rfl ⟨?_, hR4.out.done _⟩
  rw [H.out.2.2.1]
  unfold rootN
  rw [Mk.root_split _ _ h2, ← H.out.2.2.2.1]
/-- The root of digests. -/
theorem root_any : ∀ (N : Nat) (W : World) (v : Value) (ds : List (List Nat)), ds.length ≤ N → ds.length ≤ 1000000000 → Glob W → DigsAt W v ds → Calls Tryd.prog 35 #[v] W (SumPost W (rootN ds)) := by
  intro N
  induction N with
  | zero =>
    intro W v ds hN hM hG h
    obtain rfl : ds = [] := List.eq_nil_of_length_eq_zero (by omega)
    unfold rootN
    rw [Mk.root_nil]
    exact root_none W v hG h
  | succ N ih =>
    intro W v ds hN hM hG h
    by_cases hs : N ≤ 1000000000
    · match ds, h, hN, hM with
      | [], h, _, _ => unfold rootN; rw [Mk.root_nil]; exact root_none W v hG h
      | [d], h, _, _ => unfold rootN; rw [Mk.root_one]; exact root_one W v d h
      | a :: b :: r, h, hN, hM => exact root_more N ih W v _ hN (by simp) hs hM hG h
    · exact ih W v ds (by omega) hM hG h
theorem root_of (W : World) (v : Value) (ds : List (List Nat)) (hM : ds.length ≤ 1000000000) (hG : Glob W) (h : DigsAt W v ds) : Calls Tryd.prog 35 #[v] W (SumPost W (rootN ds)) := root_any ds.length W v ds (Nat.le_refl _) hM hG h
end Go.Proofs.YtplcjgpmainbnaaDoor.MkW
set_option linter.unusedVariables false
set_option linter.unusedSimpArgs false
namespace Go.Proofs.YtplcjgpmainbnaaDoor.MkW
open Go.RowKit OwnS ShaW
attribute [local go_sem ↓] Kit.execOp_call_slot
attribute [local go_sem] Kit.callSlot_func
theorem infoD : ElemInfo Tryd.prog 24 (.agg zero32.toArray) 32 32 := elemInfo (by kernel_rfl) rfl rfl
def leafH (b : List Nat) : List Nat := Sha.sum (0 :: b)
theorem dig_leaf (b : List Nat) : Dig (leafH b) := dig_sum _
theorem dig_leaves (ls : List (List Nat)) : ∀ d ∈ ls.map leafH, Dig d := fun d hd => by
  obtain ⟨b, -, rfl⟩ := List.mem_map.1 hd
  exact dig_leaf b
theorem leaves_take {ls : List (List Nat)} {i : Nat} {l : List Nat} (h : ls[i]? = some l) : ((ls.take (i + 1)).map leafH).flatten = ((ls.take i).map leafH).flatten ++ leafH l := by
  obtain ⟨hi, rfl⟩ := List.getElem?_eq_some_iff.1 h
  rw [List.take_succ_eq_append_getElem hi, List.map_append, List.flatten_append]
  simp
/-- Digests of one's own. -/
structure OwnD (w : World) (base : Nat) (v : Value) (ds : List (List Nat)) : Prop where
  own : Owns w base 32 v ds.length (bytesV ds.flatten)
  dig : ∀ d ∈ ds, Dig d
theorem OwnD.digs {w : World} {base : Nat} {v : Value} {ds : List (List Nat)} (h : OwnD w base v ds) : DigsAt w v ds := ⟨h.own.sees, h.dig⟩
def DigsPost (W : World) (ds : List (List Nat)) (e : Ending) (w' : World) : Prop := ∃ A c, e = .returned (.slice A ds.length c) ∧ OwnD w' W.heap.size (.slice A ds.length c) ds ∧ Below W.heap.size W w'
/-- A digest in a block that was just made, as a source. -/
theorem src_dig {w : World} {g : Nat} {d : List Nat} (h : w.heap[g]? = some (.cells (bytesV d).toArray 24 (0, 0))) (hd : d.length = 32) : Src Tryd.prog 32 33 (.slice (some ⟨g, 0, none⟩) 1 1) 1 (bytesV d) w :=
  src_of_sees w Tryd.underlying33 (Owns.whole (base := 0) h (Nat.zero_le _) (by rw [bytesV_length, hd]) (by unfold maxLen; omega)).sees (bytesV_one d)
/-- A slice of one digest is built. -/
theorem run_build_dig (w : World) (D : List Nat) (hD : D.length = 32) : (Instr.buildSlice 33 1 #[(0, digV D)]).run Tryd.prog w = .ok (.slice (some ⟨w.heap.size, 0, none⟩) 1 1) (w.alloc (.cells (bytesV D).toArray 24)) := by
  obtain ⟨i, hi, hz, hs, -, hzs, -⟩ := infoD
  refine run_buildSlice w 33 24 1 _ _ i _ Tryd.underlying33 hi hz (by rw [hs]; omega) (by rw [hs]; omega) ?_
  rw [hs]
  have := Great.fill_whole (s := 32) (by omega) [digV D] ((Array.range (1 * 32)).map ((Value.agg zero32.toArray).cells[· % (Value.agg zero32.toArray).cells.size]!)) (fun v hv => by
    rw [List.mem_singleton] at hv
    subst hv
    show (bytesV D).toArray.size = 32
    rw [List.size_toArray, bytesV_length, hD]) (by simp)
  simpa [digV, Value.cells] using this
theorem wpList_build_dig {w : World} {ops : Array Oper} {rest : List Oper} {o : Oper} {a : Act} {Q : Exit → Act → World → Prop} (hgd : o.guard = none) (x : Operand) (ho : o.op = .buildSlice 33 1 #[(0, x)]) (D : List Nat) (hx : a.eval x = digV D) (hD : D.length = 32)
    (h : wpList Tryd.prog ops Q rest (a.put o.dst (.slice (some ⟨w.heap.size, 0, none⟩) 1 1)) (w.alloc (.cells (bytesV D).toArray 24))) : wpList Tryd.prog ops Q (o :: rest) a w :=
  wpList_plain hgd fun _ hK => by
    unfold Oper.wp execOp
    simp only [ho, List.map_toArray, List.map_cons, List.map_nil, hx, Sem.run_bind, run_build_dig w D hD, Result.andThen_ok]
    exact hK _ _ h
set_option maxRecDepth 100000 in
set_option maxHeartbeats 1000000 in
theorem digests_any (W : World) (v : Value) (hs : List Value) (ls : List (List Nat)) (hG : Glob W) (h : RowsAt W v hs ls) (hn : ls.length ≤ 1000000) (hl : ∀ l ∈ ls, l.length ≤ 1000000) : Calls Tryd.prog 36 #[v] W (DigsPost W (ls.map leafH)) := by
  obtain ⟨A, c, rfl, -, -⟩ := h.sees.form
  have H := Lib.hid (And.intro hG (And.intro h hl))
  clear hG h hl
  go_enter Tryd.func36, Tryd.ntmps36
  go_wp2_with fail
  go_loopw [3, 8] (fun vo vi wr => ∃ (i : Nat) (A2 : Option Addr) (c2 : Nat), i ≤ ls.length ∧ vi = .int .i64 i ∧ vo = .slice A2 i c2 ∧ Hid (Owns wr W.heap.size 32 (.slice A2 i c2) i (bytesV ((ls.take i).map leafH).flatten) ∧ Below W.heap.size W wr)) (fun _ vi _ => ls.length - (intOf vi).toNat)
  case atStart => exact ⟨0, none, 0, Nat.zero_le _, rfl, rfl, Owns.nil _ _ _, Below.refl _ _⟩
  case round =>
    obtain ⟨i, A2, c2, hi, rfl, rfl, hI⟩ := hrel
    by_cases hlt : i < ls.length
    · obtain ⟨l, g, o, cap, A', c', hl', hv, hc, hse⟩ := (H.out.2.1.new hI.out.2).cell hlt
      injection hv with e1 e2 e3
      subst e1 e3
      clear e2
      have hleaf := leaf_any wr _ l (H.out.1.new hI.out.2) hse (H.out.2.1.byte l (List.mem_of_getElem? hl')) (by have := H.out.2.2 l (List.mem_of_getElem? hl'); omega)
      obtain ⟨d, hd⟩ : ∃ d, d = Sha.sum (0 :: l) := ⟨_, rfl⟩
      rw [← hd] at hleaf
      have HS := Lib.hid (And.intro hl' (And.intro hleaf (And.intro hd (show d.length = 32 by rw [hd]; exact sum_length _))))
      clear hl' hse hleaf hd
      go_wp2_with (first | (at_builtin; refine wpList_append rfl (.tmp 12) (.tmp 15) 33 33 rfl W.heap.size 24 _ 32 32 Tryd.underlying33 infoD _ i (bytesV ((ls.take i).map leafH).flatten) rfl (by exact (hI.out.1.same (fun b hb => HB.out.block b (hI.out.1.lt b hb).2) HB.out.size).alloc _) _ 1 (bytesV d) rfl (by exact src_dig (heap_alloc_new w2 _) HS.out.2.2.2) (by unfold maxLen; omega) (by omega) (by simp; have := hI.out.2.size; have := HB.out.size; omega) ?_; intro A3 c3 w3 hown3 hg3 hbl3; have HA := Lib.hid (And.intro hown3 hg3); clear hown3 hg3 hbl3) | (refine wpList_build_dig rfl (.tmp 14) rfl d rfl HS.out.2.2.2 ?_) | (go_at_call 12; (with_reducible refine Calls.mono HS.out.2.1 ?_); rintro e w2 ⟨rfl, hb2⟩; have HB := Lib.hid hb2; clear hb2))
      go_roundw
      case rel =>
        refine ⟨i + 1, A3, c3, by omega, by go_num, rfl, ?_⟩
        have h0 := hI.out.2.size
        have h1 := HB.out.size
        rw [leaves_take HS.out.1, bytesV_append]
        refine ⟨by rw [show leafH l = d from HS.out.2.2.1.symm]; exact HA.out.1, ?_⟩
        exact ((hI.out.2.trans (HB.out.mono h0)).alloc (by omega) _).grown HA.out.2 (by simp; omega) (fun k e => (hI.out.1.lt k e).1)
      case measure => simp [intOf]; omega
    · obtain rfl : i = ls.length := by omega
      rw [List.take_length] at hI
      go_wp2_with fail
      go_ret
      have hl : (ls.map leafH).length = ls.length := List.length_map _
      refine ⟨A2, c2, by rw [hl]; rfl, ⟨by rw [hl]; exact hI.out.1, dig_leaves ls⟩, hI.out.2⟩
set_option maxRecDepth 100000 in
/-- The root of leaves. -/
theorem Root_any (W : World) (v : Value) (hs : List Value) (ls : List (List Nat)) (hG : Glob W) (h : RowsAt W v hs ls) (hn : ls.length ≤ 1000000) (hl : ∀ l ∈ ls, l.length ≤ 1000000) : Calls Tryd.prog 14 #[v] W (SumPost W (rootN (ls.map leafH))) := by
  obtain ⟨A, c, rfl, -, -⟩ := h.sees.form
  obtain ⟨D, hD⟩ : ∃ D, D = rootN (ls.map leafH) := ⟨_, rfl⟩
  rw [← hD]
  have hDl : D.length = 32 := by rw [hD]; exact (dig_root _ _ (Nat.le_refl _) (dig_leaves ls)).1
  have H := Lib.hid (And.intro hG (And.intro h (And.intro hl (And.intro hD hDl))))
  clear hG h hl hD hDl
  go_enter Tryd.func14, Tryd.ntmps14
  go_upto_region 1 with (fail)
  obtain ⟨w1, hw1⟩ : ∃ w1, w1 = W.alloc (.cells zero32.toArray 24) := ⟨_, rfl⟩
  change (Code.region _ _ _).wp _ _ _ (W.alloc (.cells zero32.toArray 24))
  rw [← hw1]
  have hR : Hid (Res W w1) := by rw [hw1]; exact Res.made W
  clear hw1
  have hc := digests_any w1 _ hs ls (H.out.1.new hR.out.below) (H.out.2.1.new hR.out.below) hn H.out.2.2.1
  obtain ⟨ds, hds⟩ : ∃ ds, ds = ls.map leafH := ⟨_, rfl⟩
  have hdl : ds.length = ls.length := by rw [hds, List.length_map]
  have hDd : D = rootN ds := by rw [hds]; exact H.out.2.2.2.1
  rw [← hds] at hc
  have HC := Lib.hid hc
  have HD := Lib.hid (And.intro hdl hDd)
  clear hc hds hdl hDd
  go_wp2_with (first | (go_at_call 36; (with_reducible refine Calls.mono HC.out ?_); rintro e w2 ⟨A2, c2, rfl, ho2, hb2⟩; have hR2 : Hid (Res W w2) := hR.out.new' hb2; have hc2 := root_of w2 _ ds (by rw [HD.out.1]; omega) (H.out.1.new hR2.out.below) ho2.digs; rw [← HD.out.2] at hc2; have HC2 := Lib.hid hc2; clear ho2 hb2 hc2) | (go_at_call 35; (with_reducible refine Calls.mono HC2.out ?_); rintro e w3 ⟨rfl, hb3⟩; have hR3 : Hid (Res W w3) := hR2.out.new' hb3; clear hb3) | (refine wpList_store_dig rfl (.tmp 2) (.tmp 5) rfl W.heap.size rfl _ rfl H.out.2.2.2.2 zero32 hR3.out.blk zero32_length ?_))
  exact bodyPost_ret (ret_dig (by rfl) _ _ W.heap.size _ (by rfl) (hR3.out.back _) H.out.2.2.2.2) rfl ⟨rfl, hR3.out.done _⟩
end Go.Proofs.YtplcjgpmainbnaaDoor.MkW
