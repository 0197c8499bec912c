/- sha.Hash.Sum, sha.Sum. -/
import Derived.Test.YtplcjgpmainbnaaDoorShW
import Derived.Test.YtplcjgpmainbnaaDoorOwn
import Derived.Lib.SliceRun
import Derived.WalkSpells
set_option linter.unusedVariables false
set_option linter.unusedSimpArgs false
namespace Go.Proofs.YtplcjgpmainbnaaDoor.ShaW
open Go.RowKit Sha Bits OwnS
attribute [local go_sem ↓] Kit.execOp_call_slot
attribute [local go_sem] Kit.callSlot_func
/-- slices.Clone of bytes: a row of its own. -/
def ClonePost (W : World) (n : Nat) (xs : List Value) (e : Ending) (W' : World) : Prop := ∃ A c, e = .returned (.slice A n c) ∧ Owns W' W.heap.size 1 (.slice A n c) n xs ∧ Below W.heap.size W W'
set_option maxRecDepth 100000 in
theorem clone_bytes (W : World) (v : Value) (n : Nat) (xs : List Value) (h : Sees W 1 v n xs) (h1 : ∀ u ∈ xs, u.oneCell' = true) (hn : n ≤ 1000000000) : Calls Tryd.prog 45 #[v] W (ClonePost W n xs) := by
  have qT : ∀ (w : World) (a : Option Addr) (n c n' c' : Nat), (binOp .eql 28 (.slice a n c) (.slice none n' c')).run Tryd.prog w = .ok (.bool a.isNone) w := fun w a n c n' c' => Lib.run_eql_slice_nil w _ _ a n c n' c' Tryd.underlying28
  obtain ⟨a, cap, rfl, h2, h3⟩ := h.form
  cases a with
  | none =>
    have hn0 : n = 0 := by
      rcases Nat.eq_zero_or_pos n with h0 | h0
      · exact h0
      · obtain ⟨g, o, cap', e, -⟩ := h.holds h0
        cases e
    subst hn0
    have : xs = [] := List.eq_nil_of_length_eq_zero (by simpa using h.1)
    subst this
    go_enter Tryd.func45, Tryd.ntmps45
    go_wp2_with fail
    go_ret
    exact ⟨none, 0, rfl, Owns.nil _ _ _, Below.refl _ _⟩
  | some a =>
    have hlit : Owns (W.alloc (.cells #[] 5)) W.heap.size 1 (.slice (some ⟨W.heap.size, 0, none⟩) 0 0) 0 [] := Owns.whole (heap_alloc_new W _) (Nat.le_refl _) rfl (by unfold maxLen; omega)
    have hsee : Sees (W.alloc (.cells #[] 5)) 1 (.slice (some a) n cap) n xs := h.new ((Below.refl _ _).alloc (Nat.le_refl _) _)
    have H := Lib.hid (And.intro hlit (And.intro hsee h1))
    clear hlit hsee h1 h h2 h3
    go_enter Tryd.func45, Tryd.ntmps45
    go_wp2_with (at_builtin; refine wpList_append rfl (.tmp 5) (.tmp 6) 28 28 rfl W.heap.size 5 _ 1 1 Tryd.underlying28 infoB _ 0 [] rfl (by exact H.out.1) _ n xs rfl (by exact src_of_sees _ Tryd.underlying28 H.out.2.1 H.out.2.2) (by unfold maxLen; omega) (by omega) (by simp) ?_; intro A c w1 hown hgrow hbl; simp only [Nat.zero_add, List.nil_append] at hown; have HO := Lib.hid (And.intro hown hgrow); clear hown hgrow hbl)
    go_ret
    simp only [Nat.zero_add]
    exact ⟨A, c, rfl, HO.out.1, ((Below.refl _ _).alloc (Nat.le_refl _) _).grown HO.out.2 (by simp) (fun k e => by cases e; exact Nat.le_refl _)⟩
/-- A digest's value. -/
def digV (l : List Nat) : Value := .agg (bytesV l).toArray
def SumPost (W : World) (d : List Nat) (e : Ending) (w' : World) : Prop := e = .returned (digV d) ∧ Below W.heap.size W w'
/-- The eight bytes, k of them laid. -/
def bits8 (n k : Nat) : List Value := bytesV ((eight (8 * n % 2 ^ 64)).take k ++ List.replicate (8 - k) 0)
theorem bits8_length (n k : Nat) (h : k ≤ 8) : (bits8 n k).length = 8 := by unfold bits8; rw [bytesV_length, List.length_append, List.length_take, eight_length, List.length_replicate]; omega
structure In8 (w w' : World) (L n k : Nat) : Prop where
  keeps : Keeps w w' (· = L)
  size : w'.heap.size = w.heap.size
  blk : w'.heap[L]? = some (.cells (bits8 n k).toArray 97 (0, 0))
/-- One more of a list is laid where noughts lie. -/
theorem lay_next (l : List Nat) (N k : Nat) (h : k < l.length) (hN : k < N) : (bytesV (l.take k ++ List.replicate (N - k) 0)).set k (.int .u8 ((l.getD k 0 : Nat) : Int)) = bytesV (l.take (k + 1) ++ List.replicate (N - (k + 1)) 0) := by
  unfold bytesV
  rw [← List.map_set (f := fun b : Nat => (.int .u8 (b : Int) : Value)), List.set_append_right _ _ (by rw [List.length_take]; omega)]
  congr 1
  have e : (l.take k).length = k := by rw [List.length_take]; omega
  rw [e, Nat.sub_self, show N - k = (N - (k + 1)) + 1 by omega, List.replicate_succ, List.set_cons_zero, List.take_succ_eq_append_getElem h, List.append_assoc]
  rw [List.getD_eq_getElem?_getD, List.getElem?_eq_getElem h]
  rfl
theorem In8.put {w w' : World} {L n k : Nat} (h : In8 w w' L n k) (hk : k < 8) (hn : n ≤ 1000000000) : In8 w (w'.setCell ⟨L, k, none⟩ (.int .u8 ((n : Int) * 8 / 2 ^ (56 - 8 * k) % 256))) L n (k + 1) := by
  refine ⟨h.keeps.setCell (.inl rfl) _, by rw [← h.size]; simp, ?_⟩
  rw [set_cells h.blk]
  have e : (eight (8 * n % 2 ^ 64)).getD k 0 = 8 * n / 2 ^ (56 - 8 * k) % 256 := by
    unfold eight
    rw [List.getD_eq_getElem?_getD, List.getElem?_map, List.getElem?_range hk, Nat.mod_eq_of_lt (by omega)]
    rfl
  have e2 : ((n : Int) * 8 / 2 ^ (56 - 8 * k) % 256) = (((eight (8 * n % 2 ^ 64)).getD k 0 : Nat) : Int) := by
    rw [e]
    simp [Int.mul_comm]
  unfold bits8
  rw [e2, lay_next _ 8 k (by rw [eight_length]; exact hk) hk]
structure Sum6 (W w : World) (E L : Nat) (s : St) (l : List Nat) (n : Nat) (v : Value) : Prop where
  below : Below W.heap.size W w
  hash : HashAt w W.heap.size E v s l n
  free : ∀ k, v.ownBlock = some k → k ≠ L ∧ k ≠ W.heap.size
  res : w.heap[W.heap.size]? = some (.cells (List.replicate 32 (.int .u8 0 : Value)).toArray 24 (0, 0))
  order : W.heap.size < E ∧ E < L ∧ L < w.heap.size
theorem out_length (t : St) : (out t).length = 32 := rfl
structure In32 (w w' : World) (O : Nat) (t : St) (m : Nat) : Prop where
  keeps : Keeps w w' (· = O)
  size : w'.heap.size = w.heap.size
  blk : w'.heap[O]? = some (.cells (bytesV ((out t).take m ++ List.replicate (32 - m) 0)).toArray 24 (0, 0))
theorem out32_length (t : St) (m : Nat) (h : m ≤ 32) : (bytesV ((out t).take m ++ List.replicate (32 - m) 0)).length = 32 := by rw [bytesV_length, List.length_append, List.length_take, out_length, List.length_replicate]; omega
structure Sum7 (W w : World) (E : Nat) (t : St) : Prop where
  below : Below W.heap.size W w
  hash : ∃ v n, w.heap[E]? = some (.cells (hashCells t v n).toArray 94 (0, 0))
  res : w.heap[W.heap.size]? = some (.cells (List.replicate 32 (.int .u8 0 : Value)).toArray 24 (0, 0))
  order : W.heap.size < E ∧ E < w.heap.size
theorem Sum7.alloc {W w : World} {E : Nat} {t : St} (h : Sum7 W w E t) (o : Obj) : Sum7 W (w.alloc o) E t := by
  have ho := h.order
  obtain ⟨v, n, hb⟩ := h.hash
  exact ⟨h.below.alloc (by omega) _, ⟨v, n, by rw [Below.heap_alloc _ _ _ (by omega)]; exact hb⟩, by rw [Below.heap_alloc _ _ _ (by omega)]; exact h.res, ⟨ho.1, by simp; omega⟩⟩
theorem run_index_st (w : World) (t : St) (i : Nat) (hi : i < 8) : (Instr.index 92 (.agg #[.int .u32 (num t.a), .int .u32 (num t.b), .int .u32 (num t.c), .int .u32 (num t.d), .int .u32 (num t.e), .int .u32 (num t.f), .int .u32 (num t.g), .int .u32 (num t.h)]) (.int .i64 (i : Int))).run Tryd.prog w = .ok (.int .u32 (num (t.list.getD i 0))) w := by
  have h : i = 0 ∨ i = 1 ∨ i = 2 ∨ i = 3 ∨ i = 4 ∨ i = 5 ∨ i = 6 ∨ i = 7 := by omega
  rcases h with rfl | rfl | rfl | rfl | rfl | rfl | rfl | rfl <;> (simp only [Instr.index]; simp [go_sem, St.list])
theorem out_get (t : St) (i k : Nat) (hi : i < 8) (hk : k < 4) : (out t).getD (4 * i + k) 0 = ((t.list.getD i 0) >>> (24 - 8 * k)).toNat % 256 := by
  have h : i = 0 ∨ i = 1 ∨ i = 2 ∨ i = 3 ∨ i = 4 ∨ i = 5 ∨ i = 6 ∨ i = 7 := by omega
  have h2 : k = 0 ∨ k = 1 ∨ k = 2 ∨ k = 3 := by omega
  rcases h with rfl | rfl | rfl | rfl | rfl | rfl | rfl | rfl <;> rcases h2 with rfl | rfl | rfl | rfl <;> rfl
theorem In32.put {w w' : World} {O : Nat} {t : St} {i k : Nat} {x : W32} (h : In32 w w' O t (4 * i + k)) (hi : i < 8) (hk : k < 4) (hx : x = t.list.getD i 0) : Hid (In32 w (w'.setCell ⟨O, 4 * i + k, none⟩ (.int .u8 (num x / 2 ^ (24 - 8 * k) % 256))) O t (4 * i + (k + 1))) := by
  refine ⟨h.keeps.setCell (.inl rfl) _, by rw [← h.size]; simp, ?_⟩
  rw [set_cells h.blk]
  have e2 : (num x / 2 ^ (24 - 8 * k) % 256) = (((out t).getD (4 * i + k) 0 : Nat) : Int) := by
    rw [out_get t i k hi hk, ← hx, div_shr]
    unfold num
    simp
  rw [e2, lay_next _ 32 (4 * i + k) (by rw [out_length]; omega) (by omega)]
  rfl
theorem Sum7.keeps {W w w' : World} {E O : Nat} {t : St} (h : Sum7 W w E t) (hk : Keeps w w' (· = O)) (hO : E < O) : Sum7 W w' E t := by
  have ho := h.order
  obtain ⟨v, n, hb⟩ := h.hash
  have hz := hk.size
  exact ⟨h.below.trans (hk.below h.below.size fun b hb hS => by omega), ⟨v, n, (hk.block _ (by omega) (by omega)).trans hb⟩, (hk.block _ (by omega) (by omega)).trans h.res, ⟨ho.1, by omega⟩⟩
theorem below_setRow {w w' : World} {B : Nat} (h : Below B w w') (g : Nat) (cs : Array Value) (hg : B ≤ g) : Below B w (w'.setRow g cs) :=
  ⟨h.os, h.tape, h.output, by simpa using h.size, fun b hb => (setRow_other w' g b cs (by omega)).trans (h.block b hb)⟩
theorem eight_byte (m : Nat) : ∀ x ∈ eight m, x < 256 := fun x hx => by
  unfold eight at hx
  obtain ⟨i, -, rfl⟩ := List.mem_map.1 hx
  exact Nat.mod_lt _ (by omega)
theorem Sum6.keeps {W w w' : World} {E L : Nat} {s : St} {l : List Nat} {m : Nat} {v : Value} {n k : Nat} (h : Sum6 W w E L s l m v) (hI : In8 w w' L n k) : Sum6 W w' E L s l m v := by
  have ho := h.order
  exact ⟨h.below.trans (hI.keeps.below h.below.size fun b hb hS => by omega), h.hash.keeps hI.keeps (by omega) (fun b hb hS => (h.free b hb).1 hS) (by omega), h.free, (hI.keeps.block _ (by omega) (by omega)).trans h.res, ⟨ho.1, ho.2.1, by rw [hI.size]; exact ho.2.2⟩⟩
set_option maxRecDepth 100000 in
set_option maxHeartbeats 4000000 in
theorem hsum_any (W : World) (base g : Nat) (v : Value) (s : St) (l : List Nat) (n : Nat) (hG : Glob W) (h : HashAt W base g v s l n) (hl : l.length < 64) (hn : n ≤ 1000000000) :
    Calls Tryd.prog 49 #[.pointer (some ⟨g, 0, none⟩)] W (SumPost W (out (write (write (s, l) (128 :: List.replicate (noughts l.length) 0)) (eight (8 * n % 2 ^ 64))).1)) := by
  obtain ⟨D, hD⟩ : ∃ D, D = out (write (write (s, l) (128 :: List.replicate (noughts l.length) 0)) (eight (8 * n % 2 ^ 64))).1 := ⟨_, rfl⟩
  rw [← hD]
  have HD := Lib.hid hD
  clear hD
  obtain ⟨A, c, rfl, hc1, hc2⟩ := h.own.form
  obtain ⟨c0, c1, c2, c3, c4, c5, c6, c7, c8, c9⟩ := hash_cells h.blk
  have H := Lib.hid (And.intro hG (And.intro h (And.intro hl hn)))
  clear hG h hc1 hc2
  go_enter Tryd.func49, Tryd.ntmps49
  go_upto_region 3 with (fail)
  obtain ⟨w1, hw1⟩ : ∃ w1, w1 = W.alloc (.cells (List.replicate 32 (.int .u8 0 : Value)).toArray 24) := ⟨_, rfl⟩
  change (Code.region _ _ _).wp _ _ _ (W.alloc (.cells (List.replicate 32 (.int .u8 0 : Value)).toArray 24))
  rw [← hw1]
  have hb1 : Hid (Below W.heap.size W w1) := by rw [hw1]; exact (Below.refl _ _).alloc (Nat.le_refl _) _
  have hs1 : w1.heap.size = W.heap.size + 1 := by rw [hw1]; simp
  have hr1 : w1.heap[W.heap.size]? = some (.cells (List.replicate 32 (.int .u8 0 : Value)).toArray 24 (0, 0)) := by rw [hw1]; exact heap_alloc_new _ _
  have hblk1 := (hb1.out.block g (block_lt_of_cell c0)).trans H.out.2.1.blk
  obtain ⟨d0, d1, d2, d3, d4, d5, d6, d7, d8, d9⟩ := hash_cells hblk1
  have hgz : g < W.heap.size := block_lt_of_cell c0
  have hcl := clone_bytes w1.drew (.slice A l.length c) l.length (bytesV l) (H.out.2.1.own.sees.new hb1.out.drew) (bytesV_one l) (by have := H.out.2.2.1; omega)
  have HC := Lib.hid (And.intro hcl (And.intro hr1 (And.intro hs1 hblk1)))
  clear hcl hr1 hs1 hw1 hblk1 c0 c1 c2 c3 c4 c5 c6 c7 c8 c9
  go_region_held3 (fun w' => w'.cell? ⟨g, 0, none⟩ = some (.int .u32 (num s.a)) ∧ w'.cell? ⟨g, 1, none⟩ = some (.int .u32 (num s.b)) ∧ w'.cell? ⟨g, 2, none⟩ = some (.int .u32 (num s.c)) ∧ w'.cell? ⟨g, 3, none⟩ = some (.int .u32 (num s.d)) ∧ w'.cell? ⟨g, 4, none⟩ = some (.int .u32 (num s.e)) ∧ w'.cell? ⟨g, 5, none⟩ = some (.int .u32 (num s.f)) ∧ w'.cell? ⟨g, 6, none⟩ = some (.int .u32 (num s.g)) ∧ w'.cell? ⟨g, 7, none⟩ = some (.int .u32 (num s.h)) ∧ w'.cell? ⟨g, 8, none⟩ = some (.slice A l.length c)) (first | with_reducible exact ⟨d0, d1, d2, d3, d4, d5, d6, d7, d8⟩ | with_reducible exact ⟨e0, e1, e2, e3, e4, e5, e6, e7, e8⟩ | go_keep) (first | (go_at_call 45; (with_reducible refine Calls.mono HC.out.1 ?_); rintro e w2 ⟨A2, c2, rfl, hown2, hb2⟩; have hblk2 := (hb2.block g (Nat.lt_of_lt_of_le hgz hb1.out.size)).trans HC.out.2.2.2; obtain ⟨e0, e1, e2, e3, e4, e5, e6, e7, e8, e9⟩ := hash_cells hblk2; have HO := Lib.hid (And.intro hown2 (And.intro hb2 hblk2)); clear hown2 hb2 hblk2))
  go_upto_region 4 with (fail)
  obtain ⟨w3, hw3⟩ : ∃ w3, w3 = w2.alloc (.cells (hashCells s (.slice A2 l.length c2) 0).toArray 94) := ⟨_, rfl⟩
  change (Code.region _ _ _).wp _ _ _ (w2.alloc (.cells (hashCells s (.slice A2 l.length c2) 0).toArray 94))
  rw [← hw3]
  obtain ⟨E, hE⟩ : ∃ E, E = w2.heap.size := ⟨_, rfl⟩
  rw [← hE]
  have hs2 : W.heap.size + 1 ≤ E := by have := HO.out.2.1.size; have h3 : w1.heap.size = W.heap.size + 1 := HC.out.2.2.1; rw [hE]; have h4 : w1.drew.heap.size = w1.heap.size := rfl; omega
  have H3 : Hid (HashAt w3 W.heap.size E (.slice A2 l.length c2) s l 0) := by
    refine ⟨by rw [hw3, hE]; exact heap_alloc_new _ _, by rw [hw3]; exact (HO.out.1.mono (by have h3 : w1.heap.size = W.heap.size + 1 := HC.out.2.2.1; show W.heap.size ≤ w1.heap.size; omega)).alloc _, fun b hb => by have := (HO.out.1.lt b hb).2; omega, H.out.2.1.byte⟩
  have hb3 : Hid (Below W.heap.size W w3) := by
    show Below W.heap.size W w3
    rw [hw3]
    exact (hb1.out.drew.trans (HO.out.2.1.mono hb1.out.size)).alloc (by rw [← hE]; omega) _
  have hr3 : Hid (w3.heap[W.heap.size]? = some (.cells (List.replicate 32 (.int .u8 0 : Value)).toArray 24 (0, 0))) := by
    show w3.heap[W.heap.size]? = _
    rw [hw3, Below.heap_alloc _ _ _ (by omega), HO.out.2.1.block _ (by have h3 : w1.heap.size = W.heap.size + 1 := HC.out.2.2.1; show _ < w1.heap.size; omega)]
    exact HC.out.2.1
  have e9 : w3.cell? ⟨g, 9, none⟩ = some (.int .i64 (n : Int)) := by rw [hw3, World.cell?_alloc_lt _ _ _ (block_lt_of_cell e9)]; exact e9
  have k8 := (hash_cells H3.out.blk).2.2.2.2.2.2.2.2.1
  have hs3 : w3.heap.size = E + 1 := by rw [hw3, hE]; simp
  have HS := Lib.hid (And.intro hs2 hs3)
  have H3v : Hid (∀ k, (Value.slice A2 l.length c2).ownBlock = some k → W.heap.size < k ∧ k ≠ W.heap.size) := fun k hk => by
    have h3 : w1.heap.size = W.heap.size + 1 := HC.out.2.2.1
    have h4 : w1.drew.heap.size = w1.heap.size := rfl
    have := (HO.out.1.lt k hk).1
    omega
  clear hw3 hE hs2 hs3 d0 d1 d2 d3 d4 d5 d6 d7 d8 d9 e0 e1 e2 e3 e4 e5 e6 e7 e8 HO HC hb1
  have hq : Int.tmod (119 - (l.length : Int)) 64 = (noughts l.length : Int) := by unfold noughts; have := H.out.2.2.1; rw [Int.tmod_eq_emod_of_nonneg (by omega)]; omega
  go_upto_region 6 with (fail)
  have hlit : Owns (w3.alloc (.cells #[.int .u8 128] 5)) (E + 1) 1 (.slice (some ⟨w3.heap.size, 0, none⟩) 1 1) 1 [.int .u8 128] := Owns.whole (heap_alloc_new w3 _) (by have := HS.out.2; omega) rfl (by unfold maxLen; omega)
  have HL := Lib.hid hlit
  clear hlit
  have hnn : noughts l.length < 64 := by unfold noughts; omega
  go_wp2_with (at_builtin; refine wpList_append_zeros rfl (.tmp 40) (.tmp 41) 28 3 rfl (E + 1) 5 .i64 (.int .u8 0) 1 1 Tryd.underlying28 Tryd.underlying3 infoB _ 1 [.int .u8 128] rfl (by exact HL.out) (noughts l.length) rfl (by unfold maxLen; omega) (by omega) (by simp; have := HS.out.2; omega) ?_; intro A4 c4 w4 hown4 hg4 hbl4; have HO := Lib.hid (And.intro hown4 hg4); clear hown4 hg4 hbl4)
  have hk4 : Keeps w3 w4 (fun _ => False) := ((Keeps.refl w3 _).alloc _).trans (Keeps.of_grown HO.out.2 (S := fun k => k = w3.heap.size) (fun k e _ => by cases e; rfl)) (fun b hb => .inr (by omega))
  have H4 : Hid (HashAt w4 W.heap.size E (.slice A2 l.length c2) s l 0) := H3.out.keeps hk4 (fun h => h.elim) (fun _ _ h => h.elim) (by have := HS.out.2; omega)
  have hb4 : Hid (Below W.heap.size W w4) := hb3.out.trans (hk4.below hb3.out.size (fun _ _ h => h.elim))
  have hr4 : Hid (w4.heap[W.heap.size]? = some (.cells (List.replicate 32 (.int .u8 0 : Value)).toArray 24 (0, 0))) := (hk4.block _ (by have := HS.out; omega) (fun h => h)).trans hr3.out
  have hz4 : E + 1 ≤ w4.heap.size := by have := hk4.size; have := HS.out.2; omega
  have hs4 : Sees w4 1 (.slice A4 (1 + noughts l.length) c4) (128 :: List.replicate (noughts l.length) 0).length (bytesV (128 :: List.replicate (noughts l.length) 0)) := by
    have h := HO.out.1.sees
    have hzz : (Builtin.zeroCells (Value.int .u8 0).cells (noughts l.length)).toList = List.replicate (noughts l.length) (.int .u8 0) := zeros_byte _ _
    rw [hzz] at h
    have e1 : (128 :: List.replicate (noughts l.length) 0).length = 1 + noughts l.length := by simp; omega
    have e2 : bytesV (128 :: List.replicate (noughts l.length) 0) = [.int .u8 128] ++ List.replicate (noughts l.length) (.int .u8 0) := by simp [bytesV]
    rw [e1, e2]
    exact h
  have hw := write_any w4 W.heap.size E (.slice A2 l.length c2) s l 0 (.slice A4 (1 + noughts l.length) c4) (128 :: List.replicate (noughts l.length) 0) (H.out.1.new hb4.out) ⟨H.out.1.top, by have := HS.out.1; omega, by omega⟩ H4.out hs4 (fun k hk _ => by have := (HO.out.1.lt k hk).1; omega) (fun x hx => by rcases List.mem_cons.1 hx with rfl | hx; omega; rw [List.eq_of_mem_replicate hx]; omega) (by omega) (by simp; omega) (by have := H.out.2.2.1; omega)
  have HW := Lib.hid hw
  clear hw hs4 hk4 HL e9 hq k8
  go_wp2_with (go_at_call 48; (with_reducible refine Calls.mono HW.out ?_); rintro e w5 ⟨rfl, v5, h5, hk5, hv5⟩; have H5 := Lib.hid (And.intro h5 (And.intro hk5 hv5)); clear h5 hk5 hv5)
  obtain ⟨w6, hw6⟩ : ∃ w6, w6 = w5.alloc (.cells (bits8 n 0).toArray 97) := ⟨_, rfl⟩
  change (Code.loop _).wp _ _ _ (w5.alloc (.cells (bits8 n 0).toArray 97))
  rw [← hw6]
  obtain ⟨L, hL⟩ : ∃ L, L = w5.heap.size := ⟨_, rfl⟩
  rw [← hL]
  have hI0 : Hid (In8 w6 w6 L n 0) := by
    refine ⟨Keeps.refl _ _, rfl, ?_⟩
    rw [hw6, hL]
    exact heap_alloc_new _ _
  have H6 : Hid (Sum6 W w6 E L (write (s, l) (128 :: List.replicate (noughts l.length) 0)).1 (write (s, l) (128 :: List.replicate (noughts l.length) 0)).2 (1 + noughts l.length) v5) := by
    obtain ⟨h5, hk5, hv5⟩ := H5.out
    have hz := hk5.size
    have hE := HS.out.1
    have hlen : (0 : Int) + ((128 :: List.replicate (noughts l.length) 0).length : Nat) = ((1 + noughts l.length : Nat) : Int) := by simp; omega
    rw [hlen] at h5
    have hfree : ∀ k, v5.ownBlock = some k → k < w5.heap.size ∧ k ≠ W.heap.size := fun k hk => by
      refine ⟨(h5.own.lt k hk).2, fun e => ?_⟩
      rcases hv5 k hk with h | h
      · have := H4.out.ne k h
        have := (H3v.out k h)
        omega
      · omega
    refine ⟨?_, ?_, fun k hk => ⟨by have := (hfree k hk).1; omega, (hfree k hk).2⟩, ?_, ⟨by omega, by omega, by rw [hw6]; simp; omega⟩⟩
    · rw [hw6]
      exact (hb4.out.trans (hk5.below hb4.out.size (fun b hb hS => by
        rcases hS with rfl | hS
        · omega
        · have := (H4.out.own.lt b hS).1; omega))).alloc (by have := hb4.out.size; omega) _
    · rw [hw6]
      exact ⟨by rw [Below.heap_alloc _ _ _ (by omega)]; exact h5.blk, h5.own.alloc _, h5.ne, h5.byte⟩
    · rw [hw6, Below.heap_alloc _ _ _ (by omega), hk5.block _ (by omega) (fun hS => by
        rcases hS with h | h
        · omega
        · exact (H3v.out _ h).2 rfl)]
      exact hr4.out
  clear hw6 hL H5 H3v hz4 hr4 hb4 H4 HO HS hr3 hb3 H3 HW
  go_loopw [44] (fun i wr => ∃ k : Nat, k ≤ 8 ∧ i = .int .i64 k ∧ Hid (In8 w6 wr L n k)) (fun i _ => 8 - (intOf i).toNat)
  case atStart => exact ⟨0, by omega, rfl, hI0⟩
  case round =>
    obtain ⟨k, hk, rfl, hI⟩ := hrel
    by_cases h8 : k < 8
    · have f0 := row_frozen hI.out.blk k
      have c0 : ∃ u, wr.cell? ⟨L, k, none⟩ = some u := by
        rw [cell_of_row _ _ _ _ _ _ hI.out.blk, List.getElem?_toArray]
        exact ⟨_, List.getElem?_eq_getElem (by rw [bits8_length _ _ hk]; exact h8)⟩
      obtain ⟨u, c0⟩ := c0
      go_wp2_with fail
      go_roundw
      case rel => exact ⟨k + 1, by omega, by go_num, hI.out.put h8 H.out.2.2.2⟩
      case measure => simp [intOf]; omega
    · obtain rfl : k = 8 := by omega
      have H8 : Hid (Sum6 W wr E L (write (s, l) (128 :: List.replicate (noughts l.length) 0)).1 (write (s, l) (128 :: List.replicate (noughts l.length) 0)).2 (1 + noughts l.length) v5) := H6.out.keeps hI.out
      have hb8 : wr.heap[L]? = some (.cells (bytesV (eight (8 * n % 2 ^ 64))).toArray 97 (0, 0)) := by
        have := hI.out.blk
        rwa [show bits8 n 8 = bytesV (eight (8 * n % 2 ^ 64)) by unfold bits8; rw [List.take_of_length_le (by rw [eight_length]; omega)]; simp] at this
      have hsee : Sees wr 1 (.slice (some ⟨L, 0, none⟩) 8 8) (eight (8 * n % 2 ^ 64)).length (bytesV (eight (8 * n % 2 ^ 64))) := by
        have := (Owns.whole (base := 0) (size := 1) (k := 8) hb8 (Nat.zero_le _) (by rw [bytesV_length, eight_length]) (by unfold maxLen; omega)).sees
        rwa [eight_length]
      have hw := write_any wr W.heap.size E v5 _ _ _ (.slice (some ⟨L, 0, none⟩) 8 8) (eight (8 * n % 2 ^ 64)) (H.out.1.new H8.out.below) ⟨H.out.1.top, by have := H8.out.order; omega, by have := H8.out.order; omega⟩ H8.out.hash hsee (fun k hk _ => by injection hk with hk; have := H8.out.order; simp at hk; omega) (fun x hx => eight_byte _ x hx) (by omega) (by rw [eight_length]; omega) (by rw [write_length]; omega)
      have HW := Lib.hid hw
      clear hw hsee hb8 hI hI0
      obtain ⟨tt, htt⟩ : ∃ tt, tt = (write (write (s, l) (128 :: List.replicate (noughts l.length) 0)) (eight (8 * n % 2 ^ 64))).1 := ⟨_, rfl⟩
      have HTT := Lib.hid htt
      clear htt
      go_upto_region 14 with (go_at_call 48; (with_reducible refine Calls.mono HW.out ?_); rintro e w7 ⟨rfl, v7, h7, hk7, hv7⟩; have H7 := Lib.hid (And.intro h7 hk7); clear h7 hk7 hv7)
      have Z7 : Hid (Sum7 W w7 E tt) := by
        obtain ⟨h7, hk7⟩ := H7.out
        have ho := H8.out.order
        have hb7 := h7.blk
        rw [← HTT.out] at hb7
        refine ⟨?_, ⟨v7, _, hb7⟩, ?_, by have := hk7.size; omega⟩
        · exact H8.out.below.trans (hk7.below H8.out.below.size fun b hb hS => by
            rcases hS with rfl | hS
            · omega
            · have := (H8.out.hash.own.lt b hS).1; omega)
        · rw [hk7.block _ (by omega) (fun hS => by
            rcases hS with h | h
            · omega
            · exact (H8.out.free _ h).2 rfl)]
          exact H8.out.res
      clear H7 HW H8 H6
      go_upto_region 15 with (fail)
      obtain ⟨w8, hw8⟩ : ∃ w8, w8 = w7.alloc (.cells (bytesV ((out tt).take 0 ++ List.replicate (32 - 0) 0)).toArray 24) := ⟨_, rfl⟩
      change (Code.region _ _ _).wp _ _ _ (w7.alloc (.cells (bytesV ((out tt).take 0 ++ List.replicate (32 - 0) 0)).toArray 24))
      rw [← hw8]
      obtain ⟨O, hO⟩ : ∃ O, O = w7.heap.size := ⟨_, rfl⟩
      rw [← hO]
      have hI0 : Hid (In32 w8 w8 O tt 0) := by
        refine ⟨Keeps.refl _ _, rfl, ?_⟩
        rw [hw8, hO]
        exact heap_alloc_new _ _
      have Z8 : Hid (Sum7 W w8 E tt) := by rw [hw8]; exact Z7.out.alloc _
      have hOr : E < O ∧ O < w8.heap.size := ⟨by rw [hO]; exact Z7.out.order.2, by rw [hw8, hO]; simp⟩
      have HOr := Lib.hid hOr
      clear hw8 hO hOr Z7
      obtain ⟨v7', n7', hblk⟩ := Z8.out.hash
      obtain ⟨c0, c1, c2, c3, c4, c5, c6, c7, -⟩ := hash_cells hblk
      clear hblk
      have hix := fun (i : Nat) (hi : i < 8) (w : World) => run_index_st w tt i hi
      have HIX := Lib.hid hix
      clear hix
      go_wp2_with fail
      clear c0 c1 c2 c3 c4 c5 c6 c7
      go_loopw [63] (fun vi wr => ∃ i : Nat, i ≤ 8 ∧ vi = .int .i64 i ∧ Hid (In32 w8 wr O tt (4 * i))) (fun vi _ => 8 - (intOf vi).toNat)
      case atStart => exact ⟨0, by omega, rfl, hI0⟩
      case round =>
        obtain ⟨i, hi, rfl, hI⟩ := hrel
        by_cases hi8 : i < 8
        · have hx := HIX.out i hi8
          obtain ⟨x, hxx⟩ : ∃ x : W32, x = tt.list.getD i 0 := ⟨_, rfl⟩
          rw [← hxx] at hx
          have HX := Lib.hid hxx
          clear hxx
          go_wp2_with fail
          clear hx
          obtain ⟨wo, rfl⟩ : ∃ wo : World, wo = wr := ⟨_, rfl⟩
          go_loopw [67] (fun vk wi => ∃ k : Nat, k ≤ 4 ∧ vk = .int .i64 k ∧ Hid (In32 w8 wi O tt (4 * i + k))) (fun vk _ => 4 - (intOf vk).toNat)
          case atStart => exact ⟨0, by omega, rfl, hI⟩
          case round =>
            obtain ⟨k, hk, rfl, hJ⟩ := hrel
            by_cases hk4 : k < 4
            · have f0 := row_frozen hJ.out.blk (4 * i + k)
              have c0 : ∃ u, wr.cell? ⟨O, 4 * i + k, none⟩ = some u := by
                rw [cell_of_row _ _ _ _ _ _ hJ.out.blk, List.getElem?_toArray]
                exact ⟨_, List.getElem?_eq_getElem (by rw [out32_length _ _ (by omega)]; omega)⟩
              obtain ⟨u, c0⟩ := c0
              go_wp2_with fail
              go_roundw
              case rel => exact ⟨k + 1, by omega, by go_num, hJ.out.put hi8 hk4 HX.out⟩
              case measure => simp [intOf]; omega
            · obtain rfl : k = 4 := by omega
              go_wp2_with fail
              go_roundw
              case rel => exact ⟨i + 1, by omega, by go_num, hJ⟩
              case measure => simp [intOf]; omega
        · obtain rfl : i = 8 := by omega
          have hb8 : wr.heap[O]? = some (.cells (bytesV (out tt)).toArray 24 (0, 0)) := by
            have := hI.out.blk
            rwa [show (out tt).take (4 * 8) ++ List.replicate (32 - 4 * 8) 0 = out tt by rw [List.take_of_length_le (by rw [out_length]; omega)]; simp] at this
          have Z9 : Hid (Sum7 W wr E tt) := Z8.out.keeps hI.out.keeps HOr.out.1
          have hres := Z9.out.res
          obtain ⟨L1, hL1⟩ : ∃ L1, L1 = (bytesV (out tt)).toArray := ⟨_, rfl⟩
          obtain ⟨L0, hL0⟩ : ∃ L0, L0 = (List.replicate 32 (.int .u8 0 : Value)).toArray := ⟨_, rfl⟩
          rw [← hL1] at hb8
          rw [← hL0] at hres
          have hz1 : L1.size = 32 := by rw [hL1, List.size_toArray, bytesV_length, out_length]
          have hz0 : L0.size = 32 := by rw [hL0]; rfl
          have ho1 : L1.all (·.oneCell') = true := by rw [hL1]; exact all_oneCell_toArray (bytesV_one _)
          have hi1 : (Tryd.prog.info? 24).map (·.size) = some L1.size := by rw [hz1]; kernel_rfl
          have HH := Lib.hid (And.intro hb8 (And.intro hres (And.intro hz1 (And.intro hz0 (And.intro ho1 hi1)))))
          have HLL := Lib.hid (And.intro hL1 hL0)
          clear hb8 hres hz1 hz0 ho1 hi1 hL1 hL0
          go_wp2_with (first | (refine wpList_load_row rfl 24 (.tmp 8) rfl O rfl 24 L1 (0, 0) _ HH.out.1 Tryd.underlying24 rfl HH.out.2.2.2.2.2 ?_) | (refine wpList_store_row rfl 24 (.tmp 2) (.tmp 83) rfl W.heap.size L1 rfl rfl 24 L0 HH.out.2.1 HH.out.2.2.2.2.2 (by rw [HH.out.2.2.1, HH.out.2.2.2.1]) HH.out.2.2.2.2.1 ?_))
          refine bodyPost_ret (results_cell_row (by rfl) _ _ W.heap.size 24 L1 (0, 0) _ (by rfl) (setRow_heap _ _ _ _ _ _ HH.out.2.1) Tryd.underlying24 (by rfl) HH.out.2.2.2.2.2) rfl ⟨?_, ?_⟩
          · rw [HD.out, ← HTT.out, HLL.out.1]; rfl
          · exact below_setRow Z9.out.below _ _ (Nat.le_refl _)
end Go.Proofs.YtplcjgpmainbnaaDoor.ShaW
