/- The reference's sha: filled. -/
import Derived.Test.YtplcjgpmainbnaaDoorRsA
set_option linter.unusedVariables false
set_option linter.unusedSimpArgs false
namespace Go.Proofs.YtplcjgpmainbnaaDoor.RsW
open Go.RowKit Sha Bits OwnS ShaW
attribute [local go_sem ↓] Kit.execOp_call_slot
attribute [local go_sem] Kit.callSlot_func
def FilledPost (W : World) (l : List Nat) (e : Ending) (w' : World) : Prop := ∃ A c, e = .returned (.slice A l.length c) ∧ Owns w' W.heap.size 1 (.slice A l.length c) l.length (bytesV l) ∧ Below W.heap.size W w'
theorem src_byte (w : World) (x : Nat) : Src Tryd.prog 1 28 (.slice (some ⟨w.heap.size, 0, none⟩) 1 1) 1 (bytesV [x]) (w.alloc (.cells #[.int .u8 (x : Int)] 5)) :=
  src_one Tryd.underlying28 (by rw [cell_of_row _ _ 0 _ _ _ (heap_alloc_new w _)]; rfl) rfl
theorem src_byte' (w : World) (x : Nat) (z : Int) (h : (x : Int) = z) : Src Tryd.prog 1 28 (.slice (some ⟨w.heap.size, 0, none⟩) 1 1) 1 (bytesV [x]) (w.alloc (.cells #[.int .u8 z] 5)) := by
  subst h
  exact src_byte w x
/-- One byte more. -/
theorem own_more {W w w5 : World} {A A5 : Option Addr} {n c c5 x : Nat} {l : List Nat} {o : Obj} (hb : Below W.heap.size W w) (ho : Owns w W.heap.size 1 (.slice A n c) n (bytesV l)) (ho5 : Owns w5 W.heap.size 1 (.slice A5 (n + 1) c5) (n + 1) (bytesV l ++ bytesV [x]))
    (hg : (w.alloc o).grownBy w5 (Value.slice A n c).ownBlock) : Owns w5 W.heap.size 1 (.slice A5 (n + 1) c5) (n + 1) (bytesV (l ++ [x])) ∧ Below W.heap.size W w5 :=
  ⟨by rw [bytesV_append]; exact ho5, (hb.alloc hb.size _).grown hg (by have := hb.size; simp; omega) (fun k e => (ho.lt k e).1)⟩
set_option maxRecDepth 100000 in
set_option maxHeartbeats 2000000 in
theorem filled_any (W : World) (bv : Value) (b : List Nat) (hb : Sees W 1 bv b.length (bytesV b)) (hn : b.length ≤ 100000000) : Calls Tryd.prog 50 #[bv] W (FilledPost W (filled b)) := by
  obtain ⟨Ab, cb, rfl, -, -⟩ := hb.form
  have H := Lib.hid hb
  clear hb
  go_enter Tryd.func50, Tryd.ntmps50
  go_upto_region 3 with (at_builtin; refine wpList_append rfl (.tmp 6) (.tmp 7) 28 28 rfl W.heap.size 5 _ 1 1 Tryd.underlying28 infoB _ 0 [] rfl (by exact Owns.nil _ _ _) _ b.length (bytesV b) rfl (by exact src_of_sees _ Tryd.underlying28 H.out (bytesV_one b)) (by unfold maxLen; omega) (by omega) (Nat.le_refl _) ?_; intro A1 c1 w1 hown hg hbl; have ho1 : Owns w1 W.heap.size 1 (.slice A1 b.length c1) b.length (bytesV b) := (by simpa using hown); have hb1 : Below W.heap.size W w1 := (Below.refl _ _).grown hg (Nat.le_refl _) (fun k e => nomatch e); have H1 := Lib.hid (And.intro ho1 hb1); clear hown hg hbl ho1 hb1)
  go_wp2_with (at_builtin; refine wpList_append rfl (.tmp 9) (.tmp 10) 28 28 rfl W.heap.size 5 _ 1 1 Tryd.underlying28 infoB _ b.length (bytesV b) rfl (by exact H1.out.1.alloc _) _ 1 (bytesV [128]) rfl (by exact src_byte w1 128) (by unfold maxLen; omega) (by omega) (by have := H1.out.2.size; simp; omega) ?_; intro A2 c2 w2 hown hg hbl; have H2 := Lib.hid (own_more H1.out.2 H1.out.1 hown hg); clear hown hg hbl)
  go_loopw [3] (fun vo wr => ∃ (j : Nat) (A : Option Addr) (c : Nat), j ≤ noughts (b.length % 64) ∧ vo = .slice A (b.length + 1 + j) c ∧ Hid (Owns wr W.heap.size 1 (.slice A (b.length + 1 + j) c) (b.length + 1 + j) (bytesV (b ++ [128] ++ List.replicate j 0)) ∧ Below W.heap.size W wr)) (fun vo _ => b.length + 100 - (match vo with | .slice _ n _ => n | _ => 0))
  case atStart => exact ⟨0, A2, c2, Nat.zero_le _, rfl, Lib.hid (by simpa using H2.out)⟩
  case round =>
    obtain ⟨j, A, c, hj, rfl, hI⟩ := hrel
    have hnl : noughts (b.length % 64) ≤ 63 := by unfold noughts; omega
    by_cases hlt : j < noughts (b.length % 64)
    · have hne : ¬ ((b.length : Int) + 1 + (j : Int)) % 64 = 56 := by unfold noughts at hlt; omega
      have hne2 : (((b.length : Int) + 1 + (j : Int)) % 64 != 56) = true := by simpa using hne
      go_wp2_with (at_builtin; refine wpList_append rfl (.tmp 16) (.tmp 17) 28 28 rfl W.heap.size 5 _ 1 1 Tryd.underlying28 infoB _ (b.length + 1 + j) (bytesV (b ++ [128] ++ List.replicate j 0)) rfl (by exact hI.out.1.alloc _) _ 1 (bytesV [0]) rfl (by exact src_byte wr 0) (by unfold maxLen; omega) (by omega) (by have := hI.out.2.size; simp; omega) ?_; intro A3 c3 w3 hown hg hbl; have H3 := Lib.hid (own_more hI.out.2 hI.out.1 hown hg); clear hown hg hbl)
      go_roundw
      case rel =>
        refine ⟨j + 1, A3, c3, by omega, rfl, Lib.hid ?_⟩
        rw [List.replicate_succ', ← List.append_assoc]
        exact H3.out
      case measure => simp; omega
    · obtain rfl : j = noughts (b.length % 64) := by omega
      obtain ⟨k, hk⟩ : ∃ k, k = noughts (b.length % 64) := ⟨_, rfl⟩
      have heq : ((b.length : Int) + 1 + (k : Int)) % 64 = 56 := by rw [hk]; unfold noughts; omega
      rw [← hk] at hI hnl ⊢
      have HK := Lib.hid hk
      have heq2 : (((b.length : Int) + 1 + (k : Int)) % 64 != 56) = false := by simpa using heq
      have HE := Lib.hid heq
      clear hk heq hj hlt
      go_wp2_with fail
      obtain ⟨wo, rfl⟩ : ∃ wo : World, wo = wr := ⟨_, rfl⟩
      go_loopw [3, 5] (fun vo vi wr => ∃ (t : Nat) (A' : Option Addr) (c' : Nat), t ≤ 8 ∧ vi = .int .i64 (7 - (t : Int)) ∧ vo = .slice A' (b.length + 1 + k + t) c' ∧ Hid (Owns wr W.heap.size 1 (.slice A' (b.length + 1 + k + t) c') (b.length + 1 + k + t) (bytesV (b ++ [128] ++ List.replicate k 0 ++ (eight (8 * b.length)).take t)) ∧ Below W.heap.size W wr)) (fun _ vi _ => (intOf vi + 1).toNat)
      case atStart => exact ⟨0, A, c, Nat.zero_le _, by simp, rfl, Lib.hid (by simpa using hI.out)⟩
      case round =>
        obtain ⟨t, A', c', ht, rfl, rfl, hJ⟩ := hrel
        by_cases ht8 : t < 8
        · have e8 : (8 : Int) * (7 - (t : Int)) = ((56 - 8 * t : Nat) : Int) := by omega
          have hp := Power_any wr (56 - 8 * t) (by omega)
          rw [← e8] at hp
          obtain ⟨p, hpp⟩ : ∃ p, p = 2 ^ (56 - 8 * t) := ⟨_, rfl⟩
          rw [← hpp] at hp
          have p0 : 0 < p := by rw [hpp]; exact Nat.pow_pos (by omega)
          have p1 : ¬ p = 0 := by omega
          have p2 : (0 : Int) < (p : Int) := by omega
          have hxe : (eight (8 * b.length))[t]? = some (8 * b.length / p % 256) := by
            unfold eight
            rw [List.getElem?_map, List.getElem?_range ht8, hpp]
            rfl
          obtain ⟨y, hy⟩ : ∃ y, y = 8 * b.length / p := ⟨_, rfl⟩
          have hyI : 8 * (b.length : Int) / (p : Int) = (y : Int) := by rw [hy, Int.natCast_ediv, Int.natCast_mul]; rfl
          have hyl : (y : Int) ≤ 800000000 := by have : y ≤ 8 * b.length := by rw [hy]; exact Nat.div_le_self _ _
                                                 omega
          have hy0 : (0 : Int) ≤ (y : Int) := by omega
          rw [← hy] at hxe
          have hz : ((y % 256 : Nat) : Int) = (y : Int) % 256 := by omega
          have HP := Lib.hid (And.intro hp (And.intro hpp (And.intro hxe hz)))
          have hge : ¬ (7 : Int) - (t : Int) < 0 := by omega
          have hge2 : (0 : Int) ≤ 7 - (t : Int) := by omega
          have ht7 : (t : Int) ≤ 7 := by omega
          clear hp hpp hxe e8 hz hy
          go_wp2_with (first | (go_at_call 52; (with_reducible refine Calls.mono HP.out.1 ?_); rintro e w' ⟨rfl, rfl⟩) | (at_builtin; refine wpList_append rfl (.tmp 26) (.tmp 34) 28 28 rfl W.heap.size 5 _ 1 1 Tryd.underlying28 infoB _ (b.length + 1 + k + t) (bytesV (b ++ [128] ++ List.replicate k 0 ++ (eight (8 * b.length)).take t)) rfl (by exact hJ.out.1.alloc _) _ 1 (bytesV [y % 256]) rfl (by exact src_byte' wr _ _ HP.out.2.2.2) (by unfold maxLen; omega) (by omega) (by have := hJ.out.2.size; simp; omega) ?_; intro A3 c3 w3 hown hg hbl; have H3 := Lib.hid (own_more hJ.out.2 hJ.out.1 hown hg); clear hown hg hbl))
          go_roundw
          case rel =>
            refine ⟨t + 1, A3, c3, by omega, by go_num, rfl, Lib.hid ?_⟩
            obtain ⟨ht', hte⟩ := List.getElem?_eq_some_iff.1 HP.out.2.2.1
            rw [List.take_succ_eq_append_getElem ht', hte, ← List.append_assoc]
            exact H3.out
          case measure => simp [intOf]; omega
        · obtain rfl : t = 8 := by omega
          go_wp2_with fail
          go_ret
          have hfl : filled b = b ++ [128] ++ List.replicate k 0 ++ (eight (8 * b.length)).take 8 := by
            unfold filled
            rw [Nat.mod_eq_of_lt (show 8 * b.length < 2 ^ 64 by have : (2 : Nat) ^ 64 = 18446744073709551616 := rfl; omega), ← HK.out, List.take_of_length_le (by rw [eight_length]; omega)]
            simp
          have hll : (filled b).length = b.length + 1 + k + 8 := by rw [hfl]; simp [eight_length]; omega
          refine ⟨A', c', ?_, ?_, hJ.out.2⟩
          · rw [hll]; rfl
          · rw [hll, hfl]; exact hJ.out.1
end Go.Proofs.YtplcjgpmainbnaaDoor.RsW
