/- cupellaw11's filler: next, matrix. -/
import Derived.Test.YtfhaebaegkpkhaaByt
import Derived.Test.YtfhaebaegkpkhaaModAt
import Derived.Test.YtfhaebaegkpkhaaMadeP
import Derived.Test.YtfhaebaegkpkhaaQTail
set_option linter.unusedVariables false
set_option linter.unusedSimpArgs false
namespace Go.Proofs.Ytfhaebaegkpkhaa.Fil
open Go.RowKit OwnS Byt Cfg QTail
attribute [local go_sem ↓] Kit.execOp_call_slot
attribute [local go_sem] Kit.callSlot_func
/-- The filler in memory. -/
structure FilAt (w : World) (F : Nat) (v : Value) (fill : List Int) (at_ : Nat) : Prop where
  blk : w.heap[F]? = some (.cells [v, .int .i64 (at_ : Int)].toArray 146 (0, 0))
  sees : Ints w v fill
  ne : ∀ k, v.ownBlock = some k → k ≠ F
/-- All but one block as they were. -/
structure Else (F : Nat) (W w : World) : Prop where
  below : Below F W w
  same : ∀ k, k < W.heap.size → k ≠ F → w.heap[k]? = W.heap[k]?
theorem Else.refl (F : Nat) (W : World) : Else F W W := ⟨Below.refl _ _, fun _ _ _ => rfl⟩
theorem Else.trans {F : Nat} {A B C : World} (h : Else F A B) (k : Else F B C) : Else F A C :=
  ⟨h.below.trans k.below, fun j hj hne => (k.same j (Nat.lt_of_lt_of_le hj h.below.size) hne).trans (h.same j hj hne)⟩
theorem Else.set {F : Nat} {W w : World} (h : Else F W w) (o : Nat) (v : Value) : Else F W (w.setCell ⟨F, o, none⟩ v) :=
  ⟨h.below.setCell (p := ⟨F, o, none⟩) (Nat.le_refl _) v, fun k hk hne => (Below.heap_setCell _ _ _ _ hne).trans (h.same k hk hne)⟩
theorem Else.of {F : Nat} {W w : World} (h : Below W.heap.size W w) (hF : F ≤ W.heap.size) : Else F W w := ⟨h.mono hF, fun k hk _ => h.block k hk⟩
theorem FilAt.keep {w w' : World} {F : Nat} {v : Value} {fill : List Int} {at_ : Nat} (x : FilAt w F v fill at_) (h : Below w.heap.size w w') : FilAt w' F v fill at_ :=
  ⟨(h.block _ (Array.getElem?_eq_some_iff.1 x.blk).1).trans x.blk, x.sees.new h, x.ne⟩
theorem FilAt.put {w : World} {F : Nat} {v : Value} {fill : List Int} {at_ : Nat} (x : FilAt w F v fill at_) (t : Nat) : FilAt (w.setCell ⟨F, 1, none⟩ (.int .i64 (t : Int))) F v fill t :=
  ⟨set_cells x.blk 1 _, x.sees.same (fun b hb _ => Below.heap_setCell _ _ _ _ (x.ne b hb)), x.ne⟩
theorem FilAt.of {W w : World} {F : Nat} {v : Value} {fill : List Int} {a0 t : Nat} (x : FilAt W F v fill a0) (e : Else F W w) (hb : w.heap[F]? = some (.cells [v, .int .i64 (t : Int)].toArray 146 (0, 0))) : FilAt w F v fill t :=
  ⟨hb, x.sees.same (fun b h hn => e.same b (Sees.lt x.sees h hn) (x.ne b h)), x.ne⟩
theorem Else.grown {F : Nat} {W w w5 : World} {o : Obj} {row : Option Nat} (h : Else F W w) (hg : (w.alloc o).grownBy w5 row) (hr : ∀ k, row = some k → W.heap.size ≤ k) (hF : F < W.heap.size) : Else F W w5 ∧ w5.heap[F]? = w.heap[F]? := by
  have hs := h.below.size
  have hk : ∀ k, k < W.heap.size → w5.heap[k]? = w.heap[k]? := fun k hk => (hg.block k (by simp; omega) (fun e => by have := hr k e.symm; omega)).trans (Below.heap_alloc _ _ _ (by omega))
  exact ⟨⟨(h.below.alloc (by omega) _).grown hg (by simp; omega) (fun k e => by have := hr k e; omega), fun k hk' hne => (hk k hk').trans (h.same k hk' hne)⟩, hk F hF⟩
theorem Else.setAt {F : Nat} {W w : World} (h : Else F W w) {b : Nat} (hb : W.heap.size ≤ b) (hF : F ≤ b) (o : Nat) (v : Value) : Else F W (w.setCell ⟨b, o, none⟩ v) :=
  ⟨h.below.setCell (p := ⟨b, o, none⟩) hF v, fun k hk hne => (Below.heap_setCell _ _ _ _ (by simp; omega)).trans (h.same k hk hne)⟩
set_option maxRecDepth 100000 in
set_option maxHeartbeats 2000000 in
theorem next_any (W : World) (F : Nat) (v : Value) (fill : List Int) (at_ n : Nat) (x : FilAt W F v fill at_) (h0 : 1 ≤ fill.length) (hn : n ≤ 1000) (hat : at_ ≤ 100000) :
    Calls Try.prog 69 #[.pointer (some ⟨F, 0, none⟩), .int .i64 (n : Int)] W fun e w' => ∃ A c, e = .returned (.slice A n c) ∧ Owns w' W.heap.size 1 (.slice A n c) n (intsV (nextL fill at_ n)) ∧ FilAt w' F v fill (at_ + n) ∧ Else F W w' := by
  obtain ⟨vA, vc, rfl, hv1, hv2⟩ := Sees.form x.sees
  have hF : F < W.heap.size := (Array.getElem?_eq_some_iff.1 x.blk).1
  have X := Lib.hid x
  clear x
  go_enter Try.func69, Try.ntmps69
  go_wp2_with fail
  go_loopw [5, 6] (fun vo vi wr => ∃ (i : Nat) (A : Option Addr) (c : Nat), i ≤ n ∧ vi = .int .i64 i ∧ vo = .slice A i c ∧ Hid (Owns wr W.heap.size 1 (.slice A i c) i (intsV (nextL fill at_ i)) ∧ FilAt wr F (.slice vA fill.length vc) fill (at_ + i) ∧ Else F W wr)) (fun _ vi _ => n - (intOf vi).toNat)
  case atStart => exact ⟨0, none, 0, Nat.zero_le _, rfl, rfl, Owns.nil _ _ _, X.out, Else.refl _ _⟩
  case round =>
    obtain ⟨i, A, c, hi, rfl, rfl, hI⟩ := hrel
    by_cases hlt : i < n
    · have c0 : wr.cell? ⟨F, 0, none⟩ = some (.slice vA fill.length vc) := by rw [cell_of_row _ _ 0 _ _ _ hI.out.2.1.blk]; rfl
      have c1 : wr.cell? ⟨F, 1, none⟩ = some (.int .i64 ((at_ + i : Nat) : Int)) := by rw [cell_of_row _ _ 1 _ _ _ hI.out.2.1.blk]; rfl
      have f1 := frozen_of_row _ _ 1 _ _ hI.out.2.1.blk
      obtain ⟨g, o, rfl⟩ := some_addr hI.out.2.1.sees (by omega)
      obtain ⟨t, ht⟩ : ∃ t, t = at_ + i := ⟨_, rfl⟩
      rw [← ht] at c1
      obtain ⟨L, hL⟩ : ∃ L, L = fill.length := ⟨_, rfl⟩
      obtain ⟨m, hm⟩ : ∃ m, m = t % L := ⟨_, rfl⟩
      have hml : m < fill.length := by rw [hm, hL]; exact Nat.mod_lt _ (by omega)
      obtain ⟨y, hy⟩ : ∃ y, fill[m]? = some y := ⟨_, List.getElem?_eq_getElem hml⟩
      have ce := Sees.int hI.out.2.1.sees hy
      rw [← hL] at c0 hml
      have hmI : (t : Int) % (L : Int) = (m : Int) := by rw [hm, Int.natCast_emod]
      have hL0 : ¬ L = 0 := by omega
      have hLp : (0 : Int) < (L : Int) := by omega
      have ht0 : (0 : Int) ≤ (t : Int) := by omega
      have ht1 : (t : Int) ≤ 9223372036854775806 := by omega
      have hL1 : (L : Int) ≤ 9223372036854775807 := by unfold maxLen at hv2; omega
      have HY := Lib.hid (And.intro hy (And.intro hL (And.intro hm ht)))
      clear hy hL hm ht
      have HV := Lib.hid (And.intro hv1 hv2)
      clear hv1 hv2
      go_wp2_with fail
      have HO := Lib.hid (And.intro c0 (And.intro c1 ce))
      clear f1
      refine wp_region_mixS (fun w' => w'.cell? ⟨F, 0, none⟩ = some (.slice (some ⟨g, o, none⟩) L vc) ∧ w'.cell? ⟨F, 1, none⟩ = some (.int .i64 (t : Int)) ∧ w'.cell? ⟨g, o + m, none⟩ = some (.int .i64 y)) (fun k => k == 4 || k == 8 || k == 12 || k == 16) [0, 1, 2, 3, 4, 5, 6, 7, 8, 9, 10, 11, 12, 13, 14, 15, 16, 17, 18, 19] (by kernel_rfl) rfl (by kernel_rfl) (by kernel_rfl) (by kernel_rfl) HO.out ?_
      intro I hNI FF hFF
      have g0 : ∀ j : I, (FF j).cell? ⟨F, 0, none⟩ = some (.slice (some ⟨g, o, none⟩) L vc) := fun j => (hFF j).1
      have g1 : ∀ j : I, (FF j).cell? ⟨F, 1, none⟩ = some (.int .i64 (t : Int)) := fun j => (hFF j).2.1
      have g2 : ∀ j : I, (FF j).cell? ⟨g, o + m, none⟩ = some (.int .i64 y) := fun j => (hFF j).2.2
      clear hFF c0 c1 ce
      simp only [pairOps, List.filterMap_cons, List.filterMap_nil, List.getElem?_cons_succ, List.getElem?_cons_zero, Option.map_some]
      repeat (first | (refine mixN_free rfl rfl ?_; go_big_quiet_step (fail); refine wpQuiet_nil ?_) | (refine mixN_need rfl rfl HO.out ?_; go_big_quiet_step (fail); refine wpQuiet_nil ?_))
      refine mixN_step rfl ?_
      go_wp2_with fail
      refine ⟨rfl, fun _ => HO.out, ?_⟩
      repeat (first | (refine mixN_free rfl rfl ?_; go_big_quiet_step (fail); refine wpQuiet_nil ?_) | (refine mixN_need rfl rfl HO.out ?_; go_big_quiet_step (fail); refine wpQuiet_nil ?_))
      refine mixN_step rfl ?_
      go_wp2_with fail
      have hcq : ∀ p u, wr.cell? p = some u → (wr.drew.alloc (.cells #[.int .i64 y] 3)).cell? p = some u := fun p u hp => (World.cell?_alloc_lt _ _ _ (block_lt_of_cell hp)).trans hp
      refine ⟨rfl, fun _ => ⟨hcq _ _ HO.out.1, hcq _ _ HO.out.2.1, hcq _ _ HO.out.2.2⟩, ?_⟩
      have hdA : Below W.heap.size wr wr.drew := ⟨rfl, rfl, rfl, Nat.le_refl _, fun _ _ => rfl⟩
      have hown := (show Owns wr.drew W.heap.size 1 (.slice A i c) i (intsV (nextL fill at_ i)) from hI.out.1).alloc (.cells #[.int .i64 y] 3)
      have hsrc : Src Try.prog 1 26 (.slice (some ⟨wr.heap.size, 0, none⟩) 1 1) 1 [.int .i64 y] (wr.drew.alloc (.cells #[.int .i64 y] 3)) := src_one Try.underlying26 (by rw [show (wr.heap.size) = wr.drew.heap.size from rfl, cell_of_row _ _ 0 _ _ _ (heap_alloc_new wr.drew _)]; rfl) rfl
      have hsz := hI.out.2.2.below.size
      have HA := Lib.hid (And.intro hown (And.intro hsrc hsz))
      clear hown hsrc hcq hsz
      refine mixN_step rfl ?_
      go_wp2_with (at_builtin; refine wpList_append rfl (.tmp 12) (.tmp 29) 26 26 rfl W.heap.size 3 _ 1 8 Try.underlying26 infoI _ i (intsV (nextL fill at_ i)) rfl (by exact HA.out.1) _ 1 [.int .i64 y] rfl (by exact HA.out.2.1) (by unfold maxLen; omega) (by omega) (by have := HA.out.2.2; simp; omega) ?_; intro A5 c5 w5 hown5 hg5 hbl5)
      have hE0 : Else F W wr.drew := ⟨hI.out.2.2.below.trans (hdA.mono (by omega)), fun k hk hne => hI.out.2.2.same k hk hne⟩
      obtain ⟨hE5, hF5⟩ := hE0.grown hg5 (fun k e => (hI.out.1.lt k e).1) hF
      have hF5' : w5.heap[F]? = some (.cells [.slice (some ⟨g, o, none⟩) fill.length vc, .int .i64 (t : Int)].toArray 146 (0, 0)) := by rw [hF5, HY.out.2.2.2]; exact hI.out.2.1.blk
      have hfil5 : FilAt w5 F (.slice (some ⟨g, o, none⟩) fill.length vc) fill t := X.out.of hE5 hF5'
      have d0 : w5.cell? ⟨F, 0, none⟩ = some (.slice (some ⟨g, o, none⟩) L vc) := by rw [cell_of_row _ _ 0 _ _ _ hF5', HY.out.2.1]; rfl
      have d1 : w5.cell? ⟨F, 1, none⟩ = some (.int .i64 (t : Int)) := by rw [cell_of_row _ _ 1 _ _ _ hF5']; rfl
      have d2 := Sees.int hfil5.sees HY.out.1
      have e1 := frozen_of_row _ _ 1 _ _ hF5'
      refine ⟨rfl, fun _ => ⟨d0, d1, d2⟩, ?_⟩
      have H5 := Lib.hid (And.intro hown5 (And.intro hfil5 hE5))
      clear hown5 hg5 hbl5 hE0 hE5 hF5 hF5' hfil5 hdA g0 g1 g2 d0 d2
      refine mixN_free rfl rfl ?_
      go_big_quiet_step (fail)
      refine wpQuiet_nil ?_
      simp only [mixN]
      go_wp2_with fail
      go_roundw
      case rel =>
        refine ⟨i + 1, A5, c5, by omega, by go_num, rfl, ?_, ?_, H5.out.2.2.set 1 _⟩
        · rw [nextL_succ, intsV_append]
          have e : fill.getD ((at_ + i) % fill.length) 0 = y := by
            rw [← HY.out.2.2.2, ← HY.out.2.1, ← HY.out.2.2.1, List.getD_eq_getElem?_getD, HY.out.1]
            rfl
          rw [e]
          exact H5.out.1.setCell (fun b hb => by have := (H5.out.1.lt b hb).1; simp; omega) _
        · rw [← Nat.add_assoc, ← HY.out.2.2.2]
          exact H5.out.2.1.put (t + 1)
      case measure => simp [intOf]; omega
    · obtain rfl : i = n := by omega
      go_wp2_with fail
      go_ret
      exact ⟨A, c, rfl, hI.out.1, hI.out.2.1, hI.out.2.2⟩
theorem FilAt.drew {w : World} {F : Nat} {v : Value} {fill : List Int} {at_ : Nat} (x : FilAt w F v fill at_) : FilAt w.drew F v fill at_ := x.keep ⟨rfl, rfl, rfl, Nat.le_refl _, fun _ _ => rfl⟩
set_option maxRecDepth 100000 in
set_option maxHeartbeats 2000000 in
theorem matrix_any (W : World) (F : Nat) (v : Value) (fill : List Int) (at_ r c n : Nat) (x : FilAt W F v fill at_) (h0 : 1 ≤ fill.length) (hn : n ≤ 1000) (hat : at_ ≤ 100000) (hrc : r * c = n) :
    Calls Try.prog 68 #[.pointer (some ⟨F, 0, none⟩), .int .i64 (r : Int), .int .i64 (c : Int)] W fun e w' => ∃ A k, e = .returned (.agg #[.int .i64 (r : Int), .int .i64 (c : Int), .slice A n k]) ∧ Owns w' W.heap.size 1 (.slice A n k) n (intsV (nextL fill at_ n)) ∧ FilAt w' F v fill (at_ + n) ∧ Else F W w' := by
  have hF : F < W.heap.size := (Array.getElem?_eq_some_iff.1 x.blk).1
  obtain ⟨w1, hw1⟩ : ∃ w1, w1 = W.alloc (.cells #[.int .i64 0, .int .i64 0, .slice none 0 0] 28) := ⟨_, rfl⟩
  have hb1 : Below W.heap.size W w1 := by rw [hw1]; exact (Below.refl _ _).alloc (Nat.le_refl _) _
  have hs1 : w1.heap.size = W.heap.size + 1 := by rw [hw1]; simp
  have hnx := next_any w1 F v fill at_ n (x.keep hb1) h0 hn hat
  have hz : w1.heap[W.heap.size]? = some (.cells [Value.int .i64 0, .int .i64 0, .slice none 0 0].toArray 28 (0, 0)) := by rw [hw1]; exact heap_alloc_new W _
  have hrcI : (r : Int) * (c : Int) = (n : Int) := by rw [← hrc, Int.natCast_mul]
  have HC := Lib.hid (And.intro hnx (And.intro hb1 (And.intro hs1 hz)))
  have HW := Lib.hid hw1
  have X := Lib.hid x
  clear hnx hb1 hs1 hz hw1 x hrc
  go_enter Try.func68, Try.ntmps68
  go_wp2_with fail
  rw [← HW.out]
  with_reducible refine Calls.mono HC.out.1 ?_
  rintro e w2 ⟨A, k, rfl, ho, hf, he⟩
  have hblk2 : w2.heap[W.heap.size]? = some (.cells [Value.int .i64 0, .int .i64 0, .slice none 0 0].toArray 28 (0, 0)) := (he.same _ (by have := HC.out.2.2.1; omega) (by omega)).trans HC.out.2.2.2
  have f0 := frozen_of_row _ _ 0 _ _ hblk2
  have f1 := frozen_of_row _ _ 1 _ _ hblk2
  have f2 := frozen_of_row _ _ 2 _ _ hblk2
  have z0 : w2.cell? ⟨W.heap.size, 0, none⟩ = some (.int .i64 0) := by rw [cell_of_row _ _ 0 _ _ _ hblk2]; rfl
  have z1 : w2.cell? ⟨W.heap.size, 1, none⟩ = some (.int .i64 0) := by rw [cell_of_row _ _ 1 _ _ _ hblk2]; rfl
  have z2 : w2.cell? ⟨W.heap.size, 2, none⟩ = some (.slice none 0 0) := by rw [cell_of_row _ _ 2 _ _ _ hblk2]; rfl
  have hEW : Else F W w2 := (Else.of HC.out.2.1 (by omega)).trans he
  have H2 := Lib.hid (And.intro ho (And.intro hf (And.intro hEW hblk2)))
  clear ho hf he hEW hblk2
  go_wp2_with fail
  obtain ⟨w3, hw3⟩ : ∃ w3, w3 = (((w2.setCell ⟨W.heap.size, 0, none⟩ (.int .i64 (r : Int))).setCell ⟨W.heap.size, 1, none⟩ (.int .i64 (c : Int))).setCell ⟨W.heap.size, 2, none⟩ (.slice A n k)) := ⟨_, rfl⟩
  rw [← hw3]
  have hblk3 : w3.heap[W.heap.size]? = some (.cells [Value.int .i64 (r : Int), .int .i64 (c : Int), .slice A n k].toArray 28 (0, 0)) := by
    rw [hw3]; exact set_cells (set_cells (set_cells H2.out.2.2.2 0 _) 1 _) 2 _
  have hE3 : Else F W w3 := by rw [hw3]; exact ((H2.out.2.2.1.setAt (Nat.le_refl _) (by omega) _ _).setAt (Nat.le_refl _) (by omega) _ _).setAt (Nat.le_refl _) (by omega) _ _
  have hne : ∀ b, (Value.slice A n k).ownBlock = some b → b ≠ W.heap.size := fun b hb => by have := (H2.out.1.lt b hb).1; have := HC.out.2.2.1; omega
  have ho3 : Owns w3 W.heap.size 1 (.slice A n k) n (intsV (nextL fill at_ n)) := by
    rw [hw3]
    exact (((H2.out.1.setCell hne _).setCell hne _).setCell hne _).mono (by have := HC.out.2.2.1; omega)
  have hF3 : w3.heap[F]? = w2.heap[F]? := by
    rw [hw3, Below.heap_setCell _ _ _ _ (by simp; omega), Below.heap_setCell _ _ _ _ (by simp; omega), Below.heap_setCell _ _ _ _ (by simp; omega)]
  have hf3 : FilAt w3 F v fill (at_ + n) := X.out.of hE3 (hF3.trans H2.out.2.1.blk)
  have y0 : w3.cell? ⟨W.heap.size, 0, none⟩ = some (.int .i64 (r : Int)) := by rw [cell_of_row _ _ 0 _ _ _ hblk3]; rfl
  have y1 : w3.cell? ⟨W.heap.size, 1, none⟩ = some (.int .i64 (c : Int)) := by rw [cell_of_row _ _ 1 _ _ _ hblk3]; rfl
  have y2 : w3.cell? ⟨W.heap.size, 2, none⟩ = some (.slice A n k) := by rw [cell_of_row _ _ 2 _ _ _ hblk3]; rfl
  refine bodyPost_ret ?_ rfl ⟨A, k, rfl, ho3, hf3, hE3⟩
  simp [results, Try.f68, go_sem, y0, y1, y2]
end Go.Proofs.Ytfhaebaegkpkhaa.Fil
