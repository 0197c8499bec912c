/- The reference's sha: Sum. -/
import Derived.Test.YtplcjgpmainbnaaDoorRsK
import Derived.Test.YtplcjgpmainbnaaDoorMkA
set_option linter.unusedVariables false
set_option linter.unusedSimpArgs false
namespace Go.Proofs.YtplcjgpmainbnaaDoor.RsW
open Go.RowKit Sha Bits OwnS ShaW MkW
attribute [local go_sem ↓] Kit.execOp_call_slot
attribute [local go_sem] Kit.callSlot_func
/-- The world in Sum's first loop: the digest's cells, the state x, the filled bytes f. -/
structure M1 (W w : World) (f : List Nat) (g o : Nat) (x : List W32) : Prop where
  below : Below W.heap.size W w
  hg : W.heap.size + 2 ≤ g
  res : w.heap[W.heap.size]? = some (.cells zero32.toArray 24 (0, 0))
  st : w.heap[W.heap.size + 1]? = some (.cells (x.map i64W).toArray 85 (0, 0))
  fl : w.rangeAt g o (bytesV f)
  lt : g < w.heap.size
theorem M1.keep {W w w' : World} {f : List Nat} {g o : Nat} {x : List W32} (h : M1 W w f g o x) (hb : Below w.heap.size w w') : M1 W w' f g o x := by
  have hl := h.lt
  have hg := h.hg
  refine ⟨h.below.trans (hb.mono (by omega)), hg, (hb.block _ (by omega)).trans h.res, (hb.block _ (by omega)).trans h.st, fun j u hj => ?_, by have := hb.size; omega⟩
  exact (World.cell?_of_block (a := ⟨g, o + j, none⟩) (hb.block g hl)).trans (h.fl j u hj)
theorem i64_one (l : List W32) : ∀ u ∈ l.map i64W, u.oneCell' = true := fun u hu => by
  obtain ⟨n, -, rfl⟩ := List.mem_map.1 hu
  rfl
theorem M1.put {W w : World} {f : List Nat} {g o : Nat} {x : List W32} (h : M1 W w f g o x) (y : List W32) : M1 W (w.setRow (W.heap.size + 1) (y.map i64W).toArray) f g o y := by
  have hg := h.hg
  have hb : Below (W.heap.size + 1) w (w.setRow (W.heap.size + 1) (y.map i64W).toArray) := below_setRow (Below.refl _ _) _ _ (Nat.le_refl _)
  have hsz := hb.size
  refine ⟨below_setRow h.below _ _ (by omega), hg, (hb.block _ (by omega)).trans h.res, setRow_heap _ _ _ _ _ _ h.st, fun j u hj => ?_, by have := h.lt; omega⟩
  rw [cell_setRow_other _ _ _ _ (by simp; omega)]
  exact h.fl j u hj
/-- The world in Sum's second loop: O the block of the digest told. -/
structure M2 (W w : World) (O : Nat) (x : St) (m : Nat) : Prop where
  below : Below W.heap.size W w
  hO : W.heap.size + 1 < O
  res : w.heap[W.heap.size]? = some (.cells zero32.toArray 24 (0, 0))
  st : w.heap[W.heap.size + 1]? = some (.cells (x.list.map i64W).toArray 85 (0, 0))
  blk : w.heap[O]? = some (.cells (bytesV ((out x).take m ++ List.replicate (32 - m) 0)).toArray 24 (0, 0))
theorem M2.put {W w : World} {O m y : Nat} {x : St} (h : M2 W w O x m) (hm : m < 32) (hy : y = (out x).getD m 0) : M2 W (w.setCell ⟨O, m, none⟩ (.int .u8 (y : Int))) O x (m + 1) := by
  have hO := h.hO
  refine ⟨h.below.setCell (by simp; omega) _, hO, ?_, ?_, ?_⟩
  · rw [heap_setCell_other _ _ _ _ (by simp; omega)]; exact h.res
  · rw [heap_setCell_other _ _ _ _ (by simp; omega)]; exact h.st
  · rw [set_cells h.blk, hy, lay_next _ 32 m (by rw [out_length]; omega) hm]
theorem filled_byte (b : List Nat) (h : ∀ x ∈ b, x < 256) : ∀ x ∈ filled b, x < 256 := fun x hx => by
  unfold filled at hx
  simp only [List.mem_append, List.mem_cons, List.mem_replicate] at hx
  have := eight_byte (8 * b.length % 2 ^ 64) x
  grind
/-- What a call of block answers on f's j-th piece. -/
theorem block_cls (w : World) (s : St) (f : List Nat) (g o j c : Nat) (C : Array Value) (ht : C = ((turn s ((f.drop (64 * j)).take 64)).list.map i64W).toArray) (hl : 64 * (j + 1) ≤ f.length) (h256 : ∀ x ∈ f, x < 256) (hf : w.rangeAt g o (bytesV f)) (hg : g < w.heap.size) (I : Type) (F : I → World) (hF : ∀ i, Below w.heap.size w (F i)) (hFi : ∀ w', Below w.heap.size w w' → ∃ i, w' = F i) (i : I) :
    Calls Tryd.prog 51 #[.agg #[.int .i64 (num s.a), .int .i64 (num s.b), .int .i64 (num s.c), .int .i64 (num s.d), .int .i64 (num s.e), .int .i64 (num s.f), .int .i64 (num s.g), .int .i64 (num s.h)], .slice (some ⟨g, o + 64 * j, none⟩) 64 c] (F i) (fun e w'' => e = .returned (.agg C) ∧ ∃ j, w'' = F j) := by
  subst ht
  refine in_below hF hFi i (block_any (F i) s _ g (o + 64 * j) c (by rw [List.length_take, List.length_drop]; omega) (fun x hx => h256 x (List.mem_of_mem_drop (List.mem_of_mem_take hx))) fun m x hm => ?_)
  have hx : f[64 * j + m]? = some x := by
    rw [List.getElem?_take] at hm
    split at hm
    · rwa [List.getElem?_drop] at hm
    · cases hm
  have := hf (64 * j + m) (.int .u8 (x : Int)) (by unfold bytesV; rw [List.getElem?_map, hx]; rfl)
  rw [show o + 64 * j + m = o + (64 * j + m) by omega]
  exact ((hF i).cell (p := ⟨g, o + (64 * j + m), none⟩) hg).trans this
theorem filled_dvd (b : List Nat) (hn : b.length ≤ 100000000) : ∃ k, (filled b).length = 64 * k ∧ 0 < k ∧ k ≤ 2000000 := by
  have hfl : (filled b).length = b.length + 1 + noughts (b.length % 64) + 8 := by
    unfold filled
    simp [eight_length]
    omega
  refine ⟨(filled b).length / 64, ?_, ?_, ?_⟩ <;> (rw [hfl]; unfold noughts; omega)
set_option maxRecDepth 100000 in
set_option maxHeartbeats 8000000 in
theorem rsum_any (W : World) (bv : Value) (b : List Nat) (hb : Sees W 1 bv b.length (bytesV b)) (h256 : ∀ x ∈ b, x < 256) (hn : b.length ≤ 100000000) : Calls Tryd.prog 33 #[bv] W (SumPost W (Sha.sum b)) := by
  obtain ⟨Ab, cb, rfl, -, -⟩ := hb.form
  have H := Lib.hid (And.intro hb (And.intro h256 hn))
  obtain ⟨k, hk, hk0, hkm⟩ := filled_dvd b hn
  have HK := Lib.hid (And.intro hk (And.intro hk0 hkm))
  have hfil := fun w (hs : Sees w 1 (.slice Ab b.length cb) b.length (bytesV b)) => filled_any w _ b hs hn
  have HFI := Lib.hid hfil
  clear hb h256 hn hfil hk hk0 hkm
  go_enter Tryd.func33, Tryd.ntmps33
  go_upto_region 2 with (fail)
  change Code.wp _ _ _ _ ((W.alloc (.cells zero32.toArray 24)).alloc (.cells (st0.list.map i64W).toArray 85))
  obtain ⟨w1, hw1⟩ : ∃ w1, w1 = (W.alloc (.cells zero32.toArray 24)).alloc (.cells (st0.list.map i64W).toArray 85) := ⟨_, rfl⟩
  rw [← hw1]
  have hb1 : Below W.heap.size W w1 := by rw [hw1]; exact ((Below.refl _ _).alloc (Nat.le_refl _) _).alloc (by simp) _
  have hs1 : w1.heap.size = W.heap.size + 2 := by rw [hw1]; simp
  have hr1 : w1.heap[W.heap.size]? = some (.cells zero32.toArray 24 (0, 0)) := by
    rw [hw1, Below.heap_alloc _ _ _ (by simp)]; exact heap_alloc_new _ _
  have ht1 : w1.heap[W.heap.size + 1]? = some (.cells (st0.list.map i64W).toArray 85 (0, 0)) := by
    have := heap_alloc_new (W.alloc (.cells zero32.toArray 24)) (.cells (st0.list.map i64W).toArray 85)
    rw [hw1]
    simpa using this
  have HB1 := Lib.hid (And.intro hb1 (And.intro hs1 (And.intro hr1 ht1)))
  have hsee := H.out.1.new hb1
  have HSEE := Lib.hid hsee
  clear hw1 hb1 hs1 hr1 ht1 hsee
  go_upto_region 4 with (go_at_call 50; (with_reducible refine Calls.mono (HFI.out _ HSEE.out) ?_); rintro e w2 ⟨A2, c2, rfl, ho2, hb2⟩; have HO2 := Lib.hid (And.intro ho2 hb2); clear ho2 hb2)
  obtain ⟨f, hf⟩ : ∃ f, f = filled b := ⟨_, rfl⟩
  have HF := Lib.hid hf
  have hk := HK.out
  have ho := HO2.out
  rw [← hf] at hk ho ⊢
  obtain ⟨hlen, hk0, hkm⟩ := hk
  obtain ⟨g, o, c3, hv, hg0, hgl, hcap, hmax, hat, -⟩ := ho.1.holds (by omega)
  have hM : Hid (M1 W w2 f g o (takeAll 0 st0 f).1.list) :=
    ⟨HB1.out.1.trans (ho.2.mono (by have := HB1.out.2.1; omega)), by have := HB1.out.2.1; omega, (ho.2.block _ (by have := HB1.out.2.1; omega)).trans HB1.out.2.2.1, (ho.2.block _ (by have := HB1.out.2.1; omega)).trans HB1.out.2.2.2, hat, hgl⟩
  obtain ⟨rfl, -, rfl⟩ : A2 = some ⟨g, o, none⟩ ∧ True ∧ c2 = c3 := by injection hv with a _ b; exact ⟨a, trivial, b⟩
  have HL := Lib.hid (And.intro hlen (And.intro hk0 hkm))
  rw [hlen] at hcap ⊢
  clear hf hv ho hg0 hgl hat
  go_loopw [5] (fun i wr => ∃ j : Nat, j ≤ k ∧ i = .int .i64 (64 * (j : Int)) ∧ Hid (M1 W wr f g o (takeAll j st0 f).1.list)) (fun i _ => 64 * k - (intOf i).toNat)
  case atStart => exact ⟨0, by omega, by simp, hM⟩
  case round =>
    obtain ⟨j, hj, rfl, hT⟩ := hrel
    by_cases hlt : j < k
    · obtain ⟨x, hx⟩ : ∃ x, x = (takeAll j st0 f).1 := ⟨_, rfl⟩
      rw [← hx] at hT
      obtain ⟨t, ht⟩ : ∃ t, t = turn x ((f.drop (64 * j)).take 64) := ⟨_, rfl⟩
      have hstep := (takeAll_step j st0 f (by rw [HL.out.1]; omega)).1
      rw [← hx, ← ht] at hstep
      obtain ⟨C, hC⟩ : ∃ C, C = (t.list.map i64W).toArray := ⟨_, rfl⟩
      have hCC := Lib.hid hC
      have hcall := fun c => block_cls wr x f g o j c C (by rw [hC, ht]) (by rw [HL.out.1]; omega) (by rw [HF.out]; exact filled_byte b H.out.2.1) hT.out.fl hT.out.lt
      have hst : W.heap.size + 1 < wr.heap.size := by have := hT.out.hg; have := hT.out.lt; omega
      obtain ⟨c0, c1, c2', c3', c4, c5, c6, c7⟩ := i64_cells hT.out.st
      have HC := Lib.hid hcall
      have HE := Lib.hid hstep
      have HST := Lib.hid hst
      have i1 : (j : Int) < (k : Int) := by omega
      have i2 : 64 * (j : Int) + 64 ≤ 64 * (k : Int) := by omega
      have i3 : (j : Int) ≤ 2000000 := by have := HL.out.2.2; omega
      have i4 : 64 * (k : Int) ≤ (c2 : Int) := by omega
      clear hcall hx ht hstep hst hC
      go_wp2_with fail
      refine QTail.wp_region_below_tail 7 wr.heap.size (by kernel_rfl) (by kernel_rfl) ?_
      intro I hNI F hF' hFi
      have C0 := fun i => ((hF' i).cell (p := ⟨W.heap.size + 1, 0, none⟩) HST.out).trans c0
      have C1 := fun i => ((hF' i).cell (p := ⟨W.heap.size + 1, 1, none⟩) HST.out).trans c1
      have C2 := fun i => ((hF' i).cell (p := ⟨W.heap.size + 1, 2, none⟩) HST.out).trans c2'
      have C3 := fun i => ((hF' i).cell (p := ⟨W.heap.size + 1, 3, none⟩) HST.out).trans c3'
      have C4 := fun i => ((hF' i).cell (p := ⟨W.heap.size + 1, 4, none⟩) HST.out).trans c4
      have C5 := fun i => ((hF' i).cell (p := ⟨W.heap.size + 1, 5, none⟩) HST.out).trans c5
      have C6 := fun i => ((hF' i).cell (p := ⟨W.heap.size + 1, 6, none⟩) HST.out).trans c6
      have C7 := fun i => ((hF' i).cell (p := ⟨W.heap.size + 1, 7, none⟩) HST.out).trans c7
      have HG := Lib.hid (And.intro (fun c => HC.out c I F hF' hFi) hF')
      clear hF' hFi
      simp only [List.take_succ_cons, List.take_zero, List.drop_succ_cons, List.drop_zero]
      repeat (go_big_quiet_step (with_reducible exact HG.out.1 _ _))
      refine wpQuiet_nil ?_
      intro w4 hw'
      obtain ⟨i, hw''⟩ := hw'
      have hT4 : Hid (M1 W w4 f g o x.list) := by rw [hw'']; exact hT.out.keep (HG.out.2 i)
      clear hw'' C0 C1 C2 C3 C4 C5 C6 C7 c0 c1 c2' c3' c4 c5 c6 c7
      go_wp2_with (refine wpList_store_row rfl 85 (.tmp 3) (.tmp 23) rfl (W.heap.size + 1) C rfl rfl 85 (x.list.map i64W).toArray hT4.out.st (by rw [hCC.out]; exact row8_size) (by rw [hCC.out]; rfl) (by rw [hCC.out]; exact all_oneCell_toArray (i64_one _)) ?_)
      go_roundw
      case rel =>
        refine ⟨j + 1, by omega, by go_num, ?_⟩
        rw [HE.out, hCC.out]
        exact hT4.out.put _
      case measure => simp [intOf]; omega
    · obtain rfl : j = k := by omega
      obtain ⟨x, hx⟩ : ∃ x, x = (takeAll j st0 f).1 := ⟨_, rfl⟩
      rw [← hx] at hT
      have HX := Lib.hid hx
      clear hx
      go_upto_region 8 with (fail)
      change Code.wp _ _ _ _ (wr.alloc (.cells zero32.toArray 24))
      obtain ⟨w5, hw5⟩ : ∃ w5, w5 = wr.alloc (.cells zero32.toArray 24) := ⟨_, rfl⟩
      rw [← hw5]
      obtain ⟨O, hO⟩ : ∃ O, O = wr.heap.size := ⟨_, rfl⟩
      rw [← hO]
      have hM5 : Hid (M2 W w5 O x 0) := by
        have h := hT.out.keep (w' := w5) (by rw [hw5]; exact (Below.refl _ _).alloc (Nat.le_refl _) _)
        exact ⟨h.below, by have := hT.out.hg; have := hT.out.lt; omega, h.res, h.st, by rw [hw5, hO]; exact heap_alloc_new _ _⟩
      clear hw5 hO
      go_wp2_with fail
      obtain ⟨wo, rfl⟩ : ∃ wo : World, wo = wr := ⟨_, rfl⟩
      go_loopw [7] (fun i wr => ∃ m : Nat, m ≤ 32 ∧ i = .int .i64 m ∧ Hid (M2 W wr O x m)) (fun i _ => 32 - (intOf i).toNat)
      case atStart => exact ⟨0, by omega, rfl, hM5⟩
      case round =>
        obtain ⟨m, hm, rfl, hT⟩ := hrel
        by_cases hm32 : m < 32
        · obtain ⟨y, hy⟩ : ∃ y, y = x.list.getD (m / 4) 0 := ⟨_, rfl⟩
          obtain ⟨n, hn⟩ : ∃ n, n = y.toNat := ⟨_, rfl⟩
          have c0 : wr.cell? ⟨W.heap.size + 1, m / 4, none⟩ = some (.int .i64 (n : Int)) := by
            rw [cell_of_row _ _ _ _ _ _ hT.out.st, List.getElem?_toArray, List.getElem?_map, list_get x (show m / 4 < 8 by omega), ← hy, hn]
            rfl
          obtain ⟨p, hp⟩ : ∃ p, p = 2 ^ (24 - 8 * (m % 4)) := ⟨_, rfl⟩
          have p0 : 0 < p := by rw [hp]; exact Nat.pow_pos (by omega)
          have p1 : ¬ p = 0 := by omega
          have p2 : (0 : Int) < (p : Int) := by omega
          have e8 : (24 : Int) - 8 * ((m : Int) % 4) = ((24 - 8 * (m % 4) : Nat) : Int) := by omega
          have hpow : ∀ w : World, Calls Tryd.prog 52 #[.int .i64 (24 - 8 * ((m : Int) % 4))] w fun e w' => e = .returned (.int .i64 (p : Int)) ∧ ∃ n, w' = w.drewN n := fun w => by
            rw [e8, hp]
            exact (Power_any w (24 - 8 * (m % 4)) (by omega)).mono fun e w' ⟨a, b⟩ => ⟨a, 0, b.symm⟩
          obtain ⟨q, hq⟩ : ∃ q, q = n / p := ⟨_, rfl⟩
          have hqI : (n : Int) / (p : Int) = (q : Int) := by rw [hq, Int.natCast_ediv]
          have hn2 : n < 4294967296 := by rw [hn]; exact y.isLt
          have hql : q ≤ n := by rw [hq]; exact Nat.div_le_self _ _
          have q1 : (q : Int) ≤ 4294967295 := by omega
          have q0 : (0 : Int) ≤ (q : Int) := by omega
          have n0 : (0 : Int) ≤ (n : Int) := by omega
          have n1 : (n : Int) ≤ 4294967295 := by omega
          have f0 := frozen_of_row _ _ m _ _ hT.out.blk
          have d0 : ∃ v, wr.cell? ⟨O, m, none⟩ = some v := by
            rw [cell_of_row _ _ _ _ _ _ hT.out.blk, List.getElem?_toArray, List.getElem?_eq_getElem (by rw [out32_length x m (by omega)]; exact hm32)]
            exact ⟨_, rfl⟩
          obtain ⟨dv, d0⟩ := d0
          have HP := Lib.hid (And.intro hpow (And.intro hy (And.intro hn (And.intro hp hq))))
          clear hpow hy hn hp hq e8 hql hn2 p0
          go_wp2_with fail
          refine QTail.wp_region_quiet_tail_lit 14 (by kernel_rfl) (by kernel_rfl) ?_
          simp only [List.take_succ_cons, List.take_zero, List.drop_succ_cons, List.drop_zero]
          repeat (go_big_quiet_step (exact Calls.quiet_of (HP.out.1 _)))
          refine wpQuiet_nil ?_
          intro _ hw'
          obtain ⟨nr, hw''⟩ := hw'
          subst hw''
          have hTr : Hid (M2 W (wr.drewN nr) O x m) := by
            have h := hT.out
            exact ⟨⟨h.below.os, h.below.tape, h.below.output, h.below.size, h.below.block⟩, h.hO, h.res, h.st, h.blk⟩
          go_wp2_with fail
          go_roundw
          case rel =>
            refine ⟨m + 1, by omega, by go_num, ?_⟩
            obtain ⟨-, hy, hn, hp, hq⟩ := HP.out
            have ho := out_get x (m / 4) (m % 4) (by omega) (by omega)
            rw [show 4 * (m / 4) + m % 4 = m by omega, BitVec.toNat_ushiftRight, Nat.shiftRight_eq_div_pow, ← hy, ← hn, ← hp, ← hq] at ho
            have h9 := hTr.out.put hm32 ho.symm
            rw [Int.natCast_emod] at h9
            exact h9
          case measure => simp [intOf]; omega
        · obtain rfl : m = 32 := by omega
          have hblk := hT.out.blk
          rw [List.take_of_length_le (by rw [out_length]; omega)] at hblk
          have hb2 : wr.rangeAt O 0 (bytesV (out x)) := fun j u hj => by
            rw [Nat.zero_add, cell_of_row _ _ _ _ _ _ hblk, List.getElem?_toArray]
            simpa using hj
          have hd := out_length x
          obtain ⟨d, hdd⟩ : ∃ d, d = out x := ⟨_, rfl⟩
          rw [← hdd] at hb2 hd
          have HD := Lib.hid (And.intro hb2 (And.intro hd hdd))
          clear hblk hb2 hd hdd
          go_wp2_with (first | (refine wpList_load_dig rfl (.tmp 6) rfl O 0 rfl d HD.out.1 HD.out.2.1 ?_) | (refine wpList_store_dig rfl (.tmp 2) (.tmp 42) rfl W.heap.size rfl d rfl HD.out.2.1 zero32 hT.out.res zero32_length ?_))
          refine bodyPost_ret (ret_dig (by rfl) _ _ W.heap.size d (by rfl) (setRow_heap _ _ _ _ _ _ hT.out.res) HD.out.2.1) rfl ⟨?_, below_setRow hT.out.below _ _ (Nat.le_refl _)⟩
          rw [sum_filled, HD.out.2.2, HX.out, ← HF.out, HL.out.1, Nat.mul_div_cancel_left _ (by omega)]
end Go.Proofs.YtplcjgpmainbnaaDoor.RsW
