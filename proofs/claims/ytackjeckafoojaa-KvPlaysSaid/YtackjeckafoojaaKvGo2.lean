/- KvGoes and KvApart: calls told by their numbers, one after another. -/
import Derived.Test.YtackjeckafoojaaKvDo2
import Derived.Test.YtackjeckafoojaaKvGo1
namespace Go.Proofs.Ytackjeckafoojaa.KvI
open Go.RowKit Kv
attribute [local go_sem ↓] Kit.execOp_call_slot
attribute [local go_sem] Kit.callSlot_func

/-- A slice of calls among the arguments. -/
structure RdO (W : World) (v : Value) (xs : List (Int × Int × Int)) : Prop where
  form : ∃ A c, v = .slice A xs.length c
  cell : ∀ j a b c, xs[j]? = some (a, b, c) → ∃ ad cap, v = .slice (some ad) xs.length cap ∧ W.cell? (ad.add (j * 3)) = some (.int .i64 a) ∧ W.cell? ⟨(ad.add (j * 3)).block, (ad.add (j * 3)).off + 1, none⟩ = some (.int .i64 b) ∧ W.cell? ⟨(ad.add (j * 3)).block, (ad.add (j * 3)).off + 2, none⟩ = some (.int .i64 c)
theorem RdO.below {W w : World} {v : Value} {xs : List (Int × Int × Int)} (h : RdO W v xs) (hb : Below W.heap.size W w) : RdO w v xs :=
  ⟨h.form, fun j a b c hj => by
    obtain ⟨ad, cap, h1, h2, h3, h4⟩ := h.cell j a b c hj
    exact ⟨ad, cap, h1, (World.cell?_of_block (a := ad.add (j * 3)) (hb.block _ (block_lt_of_cell h2))).trans h2, (World.cell?_of_block (a := ⟨(ad.add (j * 3)).block, (ad.add (j * 3)).off + 1, none⟩) (hb.block _ (block_lt_of_cell h3))).trans h3, (World.cell?_of_block (a := ⟨(ad.add (j * 3)).block, (ad.add (j * 3)).off + 2, none⟩) (hb.block _ (block_lt_of_cell h4))).trans h4⟩⟩
theorem RdO.at {W : World} {ad : Addr} {n c : Nat} {xs : List (Int × Int × Int)} (h : RdO W (.slice (some ad) n c) xs) {j : Nat} {a b d : Int} (hx : xs[j]? = some (a, b, d)) : W.cell? (ad.add (j * 3)) = some (.int .i64 a) ∧ W.cell? ⟨(ad.add (j * 3)).block, (ad.add (j * 3)).off + 1, none⟩ = some (.int .i64 b) ∧ W.cell? ⟨(ad.add (j * 3)).block, (ad.add (j * 3)).off + 2, none⟩ = some (.int .i64 d) := by
  obtain ⟨ad', cap', e, h1⟩ := h.cell j a b d hx
  injection e with e1
  injection e1 with e1
  subst e1
  exact h1
/-- The two numbers that the walk reads. -/
structure TwoEnv (W w : World) (p z : Int) : Prop where
  below : Below W.heap.size W w
  size : W.heap.size + 1 ≤ w.heap.size
  b2 : w.heap[W.heap.size]? = some (.cells #[.int .i64 p, .int .i64 z] 22 (0, 0))
theorem TwoEnv.keep {W w w' : World} {p z : Int} {B : Nat} (h : TwoEnv W w p z) (hB : W.heap.size + 1 ≤ B) (hb : Below B w w') : TwoEnv W w' p z :=
  ⟨h.below.trans (hb.mono (by omega)), Nat.le_trans h.size hb.size, (hb.block _ (by omega)).trans h.b2⟩
theorem TwoEnv.cells {W w : World} {p z : Int} (h : TwoEnv W w p z) : w.cell? ⟨W.heap.size, 0, none⟩ = some (.int .i64 p) ∧ w.cell? ⟨W.heap.size, 1, none⟩ = some (.int .i64 z) := by
  refine ⟨?_, ?_⟩ <;> simp [World.cell?, h.b2]
theorem at_new (W : World) (p z : Nat) (hp : 1 ≤ p ∧ p ≤ 256) (hz : 1 ≤ z ∧ z ≤ 64) : Calls Try.prog 10 #[.int .i64 (p : Int), .int .i64 (z : Int)] W fun e w' => e = .returned (.tuple #[.pointer (some ⟨W.heap.size + 2, 0, none⟩), .int .i64 0]) ∧ At W.heap.size (W.heap.size + 2) W (fun _ => False) w' (emptyP Int p z) := by
  refine (new_good W p z hp hz).mono ?_
  rintro e w' ⟨rfl, rfl⟩
  exact ⟨rfl, Apart.of_held (Held.fresh K enc W p z) (freshW_below _ _ _ _).size (fun k hk => freshR_lt _ _ hk), fun k hk => hk.elim, (freshW_below _ _ _ _).size, freshW_below _ _ _ _⟩
theorem do_call {B G : Nat} {w0 w : World} {s : PSt Int} (h : At B G w0 (fun _ => False) w s) (hi : Inv s) (p z ask id n : Int) (W : World) (hb : Below (w.alloc (.cells #[.slice none 0 0, .int .i64 p, .int .i64 z] 34)).heap.size (w.alloc (.cells #[.slice none 0 0, .int .i64 p, .int .i64 z] 34)) W) :
    Calls Try.prog 11 #[.pointer (some ⟨G, 0, none⟩), .pointer (some ⟨w.heap.size, 0, none⟩), .agg #[.int .i64 ask, .int .i64 id, .int .i64 n]] W fun e w' => (∃ b, e = .returned (.bool b)) ∧ At B G w0 (fun _ => False) w' (s.do_ ask id n) := by
  have h0 := (Below.refl w.heap.size w).alloc (Nat.le_refl _) (.cells #[.slice none 0 0, .int .i64 p, .int .i64 z] 34)
  have h1 : Below w.heap.size w W := h0.trans (hb.mono (by simp))
  have hs : w.heap.size + 1 ≤ W.heap.size := by have := hb.size; simpa using this
  have hc : W.heap[w.heap.size]? = some (.cells #[.slice none 0 0, .int .i64 p, .int .i64 z] 34 (0, 0)) := (hb.block _ (by simp)).trans (heap_alloc_new _ _)
  refine does_run (R := w.heap.size) ⟨((h.ap.none_ge h.size h.lt).weaken (fun k hk => ?_)).below h1, ?_, Nat.le_trans h.size h1.size, h.below.trans (h1.mono h.size)⟩ hi h.size ?_ ?_ ask id n
  · exact .inr (by omega)
  · rintro k rfl; omega
  · simp [World.cell?, hc]
  · simp [World.frozen?, hc]
end Go.Proofs.Ytackjeckafoojaa.KvI
