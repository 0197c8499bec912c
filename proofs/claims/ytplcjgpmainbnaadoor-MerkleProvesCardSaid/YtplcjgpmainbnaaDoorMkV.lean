/- slices.Reverse of digests, however many. -/
import Derived.Test.YtplcjgpmainbnaaDoorMkP
import Derived.Test.YtplcjgpmainbnaaDoorQTail
set_option linter.unusedVariables false
set_option linter.unusedSimpArgs false
namespace Go.Proofs.YtplcjgpmainbnaaDoor.MkW
open Go.RowKit OwnS ShaW RevL QTail
set_option maxRecDepth 100000 in
set_option maxHeartbeats 2000000 in
theorem rev_digs (W : World) (ds : List (List Nat)) (g o cap : Nat) (hn : ds.length ≤ 1000000000) (hcap : ds.length ≤ cap) (hd : ∀ d ∈ ds, Dig d) (ht : W.there g o (cap * 32)) (hr : ∀ k d, ds[k]? = some d → W.rangeAt g (o + k * 32) (bytesV d)) :
    Calls Tryd.prog 55 #[.slice (some ⟨g, o, none⟩) ds.length cap] W fun e w' => e = .returned (.tuple #[]) ∧ (∀ k d, ds.reverse[k]? = some d → w'.rangeAt g (o + k * 32) (bytesV d)) ∧ w'.there g o (cap * 32) ∧ Keeps W w' (· = g) := by
  have H := Lib.hid (And.intro hd (And.intro ht hr))
  clear hd ht hr
  go_enter Tryd.func55, Tryd.ntmps55
  go_wp2_with fail
  go_loopw [2, 3] (fun vi vj wr => ∃ i : Nat, i ≤ ds.length ∧ vi = .int .i64 i ∧ vj = .int .i64 ((ds.length : Int) - 1 - (i : Int)) ∧ Hid (RevAt bytesV 32 ds wr g o i ∧ wr.there g o (cap * 32) ∧ Keeps W wr (· = g))) (fun vi _ _ => ds.length - (intOf vi).toNat)
  case atStart => exact ⟨0, Nat.zero_le _, rfl, by simp, RevAt.start H.out.2.2, H.out.2.1, Keeps.refl _ _⟩
  case round =>
    obtain ⟨i, hi, rfl, rfl, hI⟩ := hrel
    by_cases hlt : i < ds.length - 1 - i
    · obtain ⟨a, b, ha, hb, ra, rb⟩ := hI.out.1.two hlt
      obtain ⟨j, hj⟩ : ∃ j, j = ds.length - 1 - i := ⟨_, rfl⟩
      have hji : (ds.length : Int) - 1 - (i : Int) = (j : Int) := by omega
      rw [← hj] at rb hb
      have hjl : j < ds.length := by omega
      have hil : i < ds.length := by omega
      have hij : i < j := by omega
      have ta : wr.there g (o + i * 32) 32 := there_mono (there_drop (k := i * 32) (n := (cap - i) * 32) (by rw [← Nat.add_mul, show i + (cap - i) = cap by omega]; exact hI.out.2.1)) (by omega)
      have tb : wr.there g (o + j * 32) 32 := there_mono (there_drop (k := j * 32) (n := (cap - j) * 32) (by rw [← Nat.add_mul, show j + (cap - j) = cap by omega]; exact hI.out.2.1)) (by omega)
      have la := (H.out.1 a (List.mem_of_getElem? ha)).1
      have lb := (H.out.1 b (List.mem_of_getElem? hb)).1
      have HA := Lib.hid (And.intro ha (And.intro hb (And.intro ra (And.intro rb (And.intro ta (And.intro tb (And.intro la lb)))))))
      have HJ := Lib.hid (And.intro hj hlt)
      clear ha hb ra rb ta tb la lb hj hlt
      simp only [hji]
      go_wp2_with fail
      refine wp_region_mix (fun w' => w'.rangeAt g (o + i * 32) (bytesV a) ∧ w'.rangeAt g (o + j * 32) (bytesV b)) (fun k => k == 7 || k == 11) [0, 1, 2, 3, 4, 5, 6, 7, 8, 9, 10, 11, 12, 13, 14, 15] (by kernel_rfl) rfl (by kernel_rfl) (by kernel_rfl) (by kernel_rfl) ?_
      intro I F hF
      simp only [pairOps, List.filterMap_cons, List.filterMap_nil, List.getElem?_cons_succ, List.getElem?_cons_zero, Option.map_some]
      repeat (first | (refine mixN_free rfl rfl ?_; go_big_quiet_step (fail); refine wpQuiet_nil ?_) | (refine mixN_need rfl rfl ⟨HA.out.2.2.1, HA.out.2.2.2.1⟩ ?_; (first | (refine wpQuiet_load_dig rfl (.tmp 20) rfl g (o + j * 32) rfl b HA.out.2.2.2.2.2.2.2 (by rintro _ ⟨n, rfl⟩; exact (hF n).2) ?_) | (refine wpQuiet_load_dig rfl (.tmp 24) rfl g (o + i * 32) rfl a HA.out.2.2.2.2.2.2.1 (by rintro _ ⟨n, rfl⟩; exact (hF n).1) ?_)); refine wpQuiet_nil ?_; simp only [Act.put, List.setIfInBounds_toArray, List.set_cons_succ, List.set_cons_zero]))
      refine mixN_step rfl ?_
      go_wp2_with (refine wpList_store_mid32 rfl (.tmp 26) (.tmp 21) rfl g (o + i * 32) b rfl rfl HA.out.2.2.2.2.2.2.2 HA.out.2.2.2.2.1 ?_)
      refine ⟨rfl, fun hn => Bool.noConfusion (hn.symm.trans (by kernel_rfl : _ = true)), ?_⟩
      refine mixN_free rfl rfl ?_
      go_big_quiet_step (fail)
      refine wpQuiet_nil ?_
      refine mixN_step rfl ?_
      go_wp2_with (refine wpList_store_mid32 rfl (.tmp 27) (.tmp 25) rfl g (o + j * 32) a rfl rfl HA.out.2.2.2.2.2.2.1 (World.there_setCells (w := wr.drew) HA.out.2.2.2.2.2.1 _ _ _) ?_)
      refine ⟨rfl, fun hn => Bool.noConfusion (hn.symm.trans (by kernel_rfl : _ = true)), ?_⟩
      unfold mixN
      go_wp2_with fail
      go_roundw
      case rel =>
        refine ⟨i + 1, by omega, by go_num, by simp; omega, ?_⟩
        obtain ⟨hj, hlt⟩ := HJ.out
        have hr1 : RevAt bytesV 32 ds wr.drew g o i := hI.out.1
        have ht1 : wr.drew.there g o (cap * 32) := hI.out.2.1
        have hs := hr1.swap hlt (dig_bytes H.out.1) (there_mono ht1 (Nat.mul_le_mul_right 32 hcap)) HA.out.1 (by rw [← hj]; exact HA.out.2.1)
        rw [← hj] at hs
        exact ⟨hs, World.there_setCells (World.there_setCells ht1 _ _ _) _ _ _, keeps_setCells (keeps_setCells hI.out.2.2.drew rfl _ _) rfl _ _⟩
      case measure => simp [intOf]; omega
    · have hge : ¬ (i : Int) < (ds.length : Int) - 1 - (i : Int) := by omega
      go_wp2_with fail
      refine bodyPost_end (results_none rfl _ _ _) rfl ?_
      exact ⟨rfl, hI.out.1.ends hlt hi, hI.out.2.1, hI.out.2.2⟩
set_option maxRecDepth 100000 in
theorem reverse_any (W : World) (base : Nat) (v : Value) (ds : List (List Nat)) (h : OwnD W base v ds) (hn : ds.length ≤ 1000000000) : Calls Tryd.prog 55 #[v] W (RevPost W base v ds) := by
  by_cases h0 : 0 < ds.length
  · obtain ⟨g, o, cap, rfl, h1, h2, h3, h4, h5, h6⟩ := h.at_ h0
    refine (rev_digs W ds g o cap hn h3 h.dig h5 h6).mono ?_
    rintro e w' ⟨rfl, hr, ht, hk⟩
    refine ⟨rfl, ?_, ⟨hk.os, hk.tape, hk.output, hk.size, fun b hb hS => hk.block b hb (by rintro rfl; exact hS rfl)⟩⟩
    have := OwnD.put (base := base) (cap := cap) (ds := ds.reverse) h1 (Nat.lt_of_lt_of_le h2 hk.size) (by simpa using h3) h4 ht (fun d hd => h.dig d (by simpa using hd)) hr
    rwa [List.length_reverse] at this
  · obtain rfl : ds = [] := List.eq_nil_of_length_eq_zero (by omega)
    obtain ⟨A, c, rfl, -, -⟩ := h.own.form
    have H := Lib.hid h
    clear h
    go_enter Tryd.func55, Tryd.ntmps55
    go_wp2_with fail
    go_loopw [2, 3] (fun vi vj wr => vi = .int .i64 0 ∧ vj = .int .i64 (-1) ∧ wr = W) (fun vi _ _ => 0)
    case atStart => exact ⟨rfl, rfl, rfl⟩
    case round =>
      obtain ⟨rfl, rfl, rfl⟩ := hrel
      go_wp2_with fail
      refine bodyPost_end (results_none rfl _ _ _) rfl ?_
      exact ⟨rfl, H.out, Keeps.refl _ _⟩
theorem revs_any (L : List (List Nat)) (h : L.length ≤ 1000000000) : Revs L := fun W' base v' ho => reverse_any W' base v' L ho h
end Go.Proofs.YtplcjgpmainbnaaDoor.MkW
