/- MerkleNil's walk. -/
import Derived.Test.YtplcjgpmainbnaaDoorMkW
set_option linter.unusedVariables false
set_option linter.unusedSimpArgs false
namespace Go.Proofs.YtplcjgpmainbnaaDoor.MkW
open Go.RowKit OwnS ShaW
attribute [local go_sem ↓] Kit.execOp_call_slot
attribute [local go_sem] Kit.callSlot_func
set_option maxRecDepth 100000 in
set_option maxHeartbeats 4000000 in
theorem nil_law (W : World) (i : Int) (A : Option Addr) (n c : Nat) (hG : Glob W) : Calls Tryd.prog 8 #[.int .i64 i, .slice A n c] W fun e w' => e = .returned (.bool true) ∧ Below W.heap.size W w' := by
  obtain ⟨D, hD⟩ : ∃ D, D = rootN [] := ⟨_, rfl⟩
  have dD : Dig D := by rw [hD]; exact dig_root _ _ (Nat.le_refl _) (by simp)
  have hT : ∀ w, Glob w → Calls Tryd.prog 31 #[.pointer none] w (SumPost w D) := fun w h => by rw [hD]; exact tree_root_nil w h
  have hR : ∀ w, Glob w → Calls Tryd.prog 14 #[.slice none 0 0] w (SumPost w D) := fun w h => by rw [hD]; exact Root_any w _ [] [] h (rows_nil w) (by simp) (by simp)
  have hQ : ∀ w q lv v, Glob w → w.heap[q]? = some (.cells #[lv, v] 80 (0, 0)) → DigsAt w v [] → Calls Tryd.prog 31 #[.pointer (some ⟨q, 0, none⟩)] w (SumPost w D) := fun w q lv v h1 h2 h3 => by rw [hD]; exact tree_root w q lv v [] h1 h2 h3 (by simp)
  have q1 : ∀ w, (binOp .eql 24 (digV D) (digV D)).run Tryd.prog w = .ok (.bool true) w := fun w => by rw [run_eql_dig w D D dD dD, decide_eq_true rfl]
  have q4 : ∀ op x y w c d, (eqGuard op 24 x y (digV c) (digV d)).run Tryd.prog w = .ok () w := fun op x y w c d => run_guard_dig op x y w c d
  have H := Lib.hid (And.intro hT (And.intro hR (And.intro hQ hG)))
  clear hT hR hQ hG hD dD
  go_enter Tryd.func8, Tryd.ntmps8
  by_cases hn : 100 < n
  · have hn' : (100 : Int) < (n : Int) := by omega
    go_wp2_with (go_at_call 11; (with_reducible refine Calls.mono (awake_any _ H.out.2.2.2) ?_); rintro e w1 ⟨rfl, hb⟩)
    go_ret
    exact ⟨rfl, hb⟩
  · have hn' : ¬ (100 : Int) < (n : Int) := by omega
    go_wp2_with (first | (go_at_call 29; (with_reducible refine Calls.mono (get_nil _ _) ?_); rintro e w' ⟨rfl, rfl⟩) | (go_at_call 30; (with_reducible refine Calls.mono (prove_nil _ _) ?_); rintro e w' ⟨rfl, rfl⟩) | (go_at_call 27; (with_reducible refine Calls.mono (len_nil _) ?_); rintro e w' ⟨rfl, rfl⟩) | (go_at_call 28; (with_reducible refine Calls.mono (set_nil _ _ _) ?_); rintro e w' ⟨rfl, rfl⟩) | (go_at_call 31; (with_reducible refine Calls.mono (H.out.1 _ H.out.2.2.2) ?_); rintro e w1 ⟨rfl, hb1⟩; have HB1 := Lib.hid hb1; clear hb1) | (go_at_call 14; (with_reducible refine Calls.mono (H.out.2.1 _ (H.out.2.2.2.new HB1.out)) ?_); rintro e w2 ⟨rfl, hb2⟩; have HB2 := Lib.hid (below_chain HB1.out hb2); clear hb2) | (go_at_call 26; (with_reducible refine Calls.mono (new_nil _ (H.out.2.2.2.new HB2.out)) ?_); rintro e w3 ⟨q, lv, v, rfl, hq, hv, hb3⟩; have HB3 := Lib.hid (And.intro (below_chain HB2.out hb3) (And.intro hq hv)); clear hb3 hq hv) | (go_at_call 31; (with_reducible refine Calls.mono (H.out.2.2.1 _ _ _ _ (H.out.2.2.2.new HB3.out.1) HB3.out.2.1 HB3.out.2.2) ?_); rintro e w4 ⟨rfl, hb4⟩; have HB4 := Lib.hid (below_chain HB3.out.1 hb4); clear hb4) | (go_at_call 31; (with_reducible refine Calls.mono (H.out.1 _ (H.out.2.2.2.new HB4.out)) ?_); rintro e w5 ⟨rfl, hb5⟩; have HB5 := Lib.hid (below_chain HB4.out hb5); clear hb5) | (go_at_call 11; (with_reducible refine Calls.mono (awake_any _ (H.out.2.2.2.new HB5.out)) ?_); rintro e w6 ⟨rfl, hb6⟩; have HB6 := Lib.hid (below_chain HB5.out hb6); clear hb6))
    go_ret
    exact ⟨rfl, HB6.out⟩
end Go.Proofs.YtplcjgpmainbnaaDoor.MkW
