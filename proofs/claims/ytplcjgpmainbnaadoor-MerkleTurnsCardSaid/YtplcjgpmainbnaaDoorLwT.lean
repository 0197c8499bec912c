/- MerkleTurns' walk. -/
import Derived.Test.YtplcjgpmainbnaaDoorLwD
import Derived.Test.YtplcjgpmainbnaaDoorLwS
import Derived.Test.YtplcjgpmainbnaaDoorMkK
set_option linter.unusedVariables false
set_option linter.unusedSimpArgs false
namespace Go.Proofs.YtplcjgpmainbnaaDoor.MkW
open Go.RowKit OwnS ShaW RevL QTail
attribute [local go_sem ↓] Kit.execOp_call_slot
attribute [local go_sem] Kit.callSlot_func
/-- A call that is asked for: which, the place, the leaf's header, its bytes. -/
structure Ask where
  ask : Int
  i : Int
  h : Value
  l : List Nat
def askC (x : Ask) : List Value := [.int .i64 x.ask, .int .i64 x.i, x.h]
structure AsksAt (w : World) (v : Value) (xs : List Ask) : Prop where
  sees : Sees w 3 v xs.length (xs.map askC).flatten
  row : ∀ x ∈ xs, Sees w 1 x.h x.l.length (bytesV x.l) ∧ ∀ y ∈ x.l, y < 256
theorem op_size : (Tryd.prog.info? 54).map (·.size) = some 3 := by kernel_rfl
theorem wpList_load_ask {w : World} {ops : Array Oper} {rest : List Oper} {o : Oper} {a : Act} {Q : Exit → Act → World → Prop} (hgd : o.guard = none) (x : Operand) (ho : o.op = .load 54 x) (g p : Nat) (hx : a.eval x = .pointer (some ⟨g, p, none⟩)) (k : Ask) (hg : w.rangeAt g p (askC k))
    (h : wpList Tryd.prog ops Q rest (a.put o.dst (.agg #[.int .i64 k.ask, .int .i64 k.i, k.h])) w) : wpList Tryd.prog ops Q (o :: rest) a w :=
  wpList_load_mid hgd 54 x ho g p hx (askC k) _ hg Tryd.underlying54 rfl op_size h
theorem below_nil {w w' : World} (h : w.grownBy w' none) : Below w.heap.size w w' := (Below.refl _ _).grown h (Nat.le_refl _) (fun k e => by cases e)
theorem bytes_ints (l : List Nat) : bytesV l = (l.map fun y : Nat => (y : Int)).map fun z => (.int .u8 z : Value) := by unfold bytesV; rw [List.map_map]; rfl
/-- Between calls: the tree's leaves, those that it should have; T: what holds of the blocks of the tree's bytes. -/
structure TurnI (W w : World) (B1 q : Nat) (lv v nv : Value) (l1 l2 : List (List Nat)) (T : Nat → Prop) : Prop where
  tree : TreeIn w W.heap.size q lv v l1 (fun b => nv.ownBlock ≠ some b ∧ T b)
  now : ∃ hs, Owns w B1 1 nv l2.length hs ∧ ∀ (i : Nat) (l : List Nat), l2[i]? = some l → ∃ h, hs[i]? = some h ∧ Sees W 1 h l.length (bytesV l)
  byte : ∀ l ∈ l2, ∀ x ∈ l, x < 256
  few : ∀ l ∈ l2, l.length ≤ 100
  below : Below W.heap.size W w
  old : q < B1 ∧ (∀ b, lv.ownBlock = some b ∨ v.ownBlock = some b → b < B1) ∧ W.heap.size ≤ B1 ∧ B1 ≤ w.heap.size
section
variable {W w w' : World} {B1 q : Nat} {lv v nv : Value} {l1 l2 : List (List Nat)} {T T' : Nat → Prop}
theorem TurnI.new (h : TurnI W w B1 q lv v nv l1 l2 T) (hb : Below w.heap.size w w') (hT : ∀ b, b < w.heap.size → T b → T' b) : TurnI W w' B1 q lv v nv l1 l2 T' := by
  obtain ⟨hs, h1, h2⟩ := h.now
  exact ⟨(h.tree.mono fun b h3 h4 => ⟨h3.1, hT b h4 h3.2⟩).keep hb, ⟨hs, h1.same (fun b e => hb.block b (h1.lt b e).2) hb.size, h2⟩, h.byte, h.few, below_chain' h.below hb, h.old.1, h.old.2.1, h.old.2.2.1, Nat.le_trans h.old.2.2.2 hb.size⟩
theorem TurnI.nvlt (h : TurnI W w B1 q lv v nv l1 l2 T) {b : Nat} (e : nv.ownBlock = some b) : B1 ≤ b ∧ b < w.heap.size := by
  obtain ⟨hs, h1, h2⟩ := h.now
  exact h1.lt b e
theorem TurnI.rowsAt (h : TurnI W w B1 q lv v nv l1 l2 T) : ∃ hs, RowsAt w nv hs l2 := by
  obtain ⟨hs, h1, h2⟩ := h.now
  exact ⟨hs, h1.sees, fun i l hl => by obtain ⟨x, e1, e2⟩ := h2 i l hl; exact ⟨x, e1, e2.new h.below⟩, h.byte⟩
/-- A block of somebody else's changes. -/
theorem TurnI.foreign {S : Nat → Prop} (h : TurnI W w B1 q lv v nv l1 l2 T) (hk : Keeps w w' S) (hT : ∀ b, T b → ¬ S b) (hS : ∀ b, S b → B1 ≤ b ∧ nv.ownBlock ≠ some b) : TurnI W w' B1 q lv v nv l1 l2 T := by
  obtain ⟨hs, h1, h2⟩ := h.now
  have ho := h.old
  refine ⟨h.tree.foreign hk (fun b hb => hT b hb.2) (fun e => by have := (hS q e).1; omega) (fun b e e2 => by have := (hS b e2).1; have := ho.2.1 b (.inl e); omega) (fun b e e2 => by have := (hS b e2).1; have := ho.2.1 b (.inr e); omega), ⟨hs, h1.same (fun b e => hk.block b (h1.lt b e).2 (fun e2 => (hS b e2).2 e)) hk.size, h2⟩, h.byte, h.few, ?_, ho.1, ho.2.1, ho.2.2.1, Nat.le_trans ho.2.2.2 hk.size⟩
  exact h.below.trans (hk.below h.below.size (fun b hb e => by have := (hS b e).1; omega))
/-- Set. -/
theorem TurnI.set {i : Nat} {l : List Nat} (h : TurnI W w B1 q lv v nv l1 l2 T) {e : Ending} (hp : SetPost w W.heap.size q lv v (l1.set i l) (fun b => nv.ownBlock ≠ some b ∧ T b) e w') : TurnI W w' B1 q lv v nv (l1.set i l) l2 T := by
  obtain ⟨-, ht, hk⟩ := hp
  obtain ⟨hs, h1, h2⟩ := h.now
  have ho := h.old
  refine ⟨ht, ⟨hs, h1.same (fun b e => hk.block b (h1.lt b e).2 (fun e2 => by have := ho.2.1 b e2; have := (h1.lt b e).1; omega)) hk.size, h2⟩, h.byte, h.few, ?_, ho.1, ho.2.1, ho.2.2.1, Nat.le_trans ho.2.2.2 hk.size⟩
  exact h.below.trans (hk.below h.below.size (fun b hb e => by have := (h.tree.lt b e).1; omega))
theorem own_put1 {g o cap n base j : Nat} {xs : List Value} (h : Owns w base 1 (.slice (some ⟨g, o, none⟩) n cap) n xs) (hn : xs.length = n) (hj : j < n) (x : Value) : Owns (w.setCell ⟨g, o + j, none⟩ x) base 1 (.slice (some ⟨g, o, none⟩) n cap) n (xs.set j x) := by
  subst hn
  have := owns_put (enc := fun y : Value => [y]) (s := 1) (ds := xs) (i := j) (fun _ _ => rfl) (by rw [flat_one]; exact h) hj x rfl
  rwa [flat_one, Nat.mul_one] at this
/-- One of the leaves that the tree should have is another one. -/
theorem TurnI.put {ng no nc i : Nat} {x : Value} {l : List Nat} (h : TurnI W w B1 q lv v (.slice (some ⟨ng, no, none⟩) l2.length nc) l1 l2 T) (hi : i < l2.length) (hx : Sees W 1 x l.length (bytesV l)) (hl : ∀ y ∈ l, y < 256) (hf : l.length ≤ 100) : TurnI W (w.setCell ⟨ng, no + i, none⟩ x) B1 q lv v (.slice (some ⟨ng, no, none⟩) l2.length nc) l1 (l2.set i l) T := by
  obtain ⟨hs, h1, h2⟩ := h.now
  have ho := h.old
  have hng := h.nvlt (b := ng) rfl
  have hk : Keeps w (w.setCell ⟨ng, no + i, none⟩ x) (· = ng) := Keeps.setCell (a := ⟨ng, no + i, none⟩) (Keeps.refl w (· = ng)) (.inl rfl) x
  have hsl : hs.length = l2.length := by have := h1.1; omega
  refine ⟨h.tree.foreign hk (fun b hb e => hb.1 (by rw [e]; rfl)) (fun e => by omega) (fun b e e2 => by have := ho.2.1 b (.inl e); omega) (fun b e e2 => by have := ho.2.1 b (.inr e); omega), ⟨hs.set i x, ?_, fun j l' hj => ?_⟩, fun l' hl' => ?_, fun l' hl' => ?_, ?_, ho.1, ho.2.1, ho.2.2.1, by simpa using ho.2.2.2⟩
  · rw [List.length_set]
    exact own_put1 h1 hsl hi x
  · by_cases hji : j = i
    · subst hji
      rw [List.getElem?_set_self hi] at hj
      injection hj with hj
      subst hj
      exact ⟨x, List.getElem?_set_self (by omega), hx⟩
    · rw [List.getElem?_set_ne (fun e => hji e.symm)] at hj ⊢
      exact h2 j l' hj
  · rcases List.mem_or_eq_of_mem_set hl' with hl' | rfl
    · exact h.byte l' hl'
    · exact hl
  · rcases List.mem_or_eq_of_mem_set hl' with hl' | rfl
    · exact h.few l' hl'
    · exact hf
  · exact h.below.setCell (p := ⟨ng, no + i, none⟩) (by have := ho.2.2.1; simp; omega) _
end
set_option maxRecDepth 100000 in
set_option maxHeartbeats 8000000 in
theorem turns_some (W : World) (rv ov : Value) (hs : List Value) (ls : List (List Nat)) (xs : List Ask) (hG : Glob W) (h : RowsAt W rv hs ls) (hfew : few ls = true) (hx : AsksAt W ov xs) (hxl : xs.length ≤ 20) :
    Calls Tryd.prog 7 #[rv, ov] W fun e w' => e = .returned (.bool true) ∧ Below W.heap.size W w' := by
  obtain ⟨hl20, hl100⟩ := few_of hfew
  obtain ⟨A, c, rfl, -, -⟩ := h.sees.form
  obtain ⟨oA, oc, rfl, -, -⟩ := hx.sees.form
  have hF := few_any W _ hs ls h
  rw [hfew] at hF
  have m0 : ∀ l ∈ ls, l.length ≤ 1000000 := fun l hl => by have := hl100 l hl; omega
  have cN := fun (w : World) (hw : Below W.heap.size W w) => New_any w _ hs ls (hG.new hw) (h.new hw) (by omega) m0
  have hone : ∀ u ∈ hs, u.oneCell' = true := fun u hu => by
    obtain ⟨i, hi⟩ := List.mem_iff_getElem?.1 hu
    have hil : i < ls.length := by have := (List.getElem?_eq_some_iff.1 hi).1; have := h.sees.1; omega
    obtain ⟨x, e1, e2⟩ := h.row i _ (List.getElem?_eq_getElem hil)
    rw [hi] at e1
    injection e1 with e1
    obtain ⟨A', c', e3, -, -⟩ := e2.form
    rw [e1, e3]
    rfl
  have HW := Lib.hid (fun (w : World) (hw : Below W.heap.size W w) => awake_any w (hG.new hw))
  have H := Lib.hid (And.intro hG (And.intro h (And.intro hF (And.intro cN (And.intro hone (And.intro hl100 hx))))))
  clear hG h hF cN hone hl100 m0 hx
  have g0 : ¬ (20 : Int) < (xs.length : Int) := by omega
  go_enter Tryd.func7, Tryd.ntmps7
  go_upto_region 7 with (first | (go_at_call 10; (with_reducible refine Calls.mono H.out.2.2.1 ?_); rintro e w1 ⟨rfl, hb1⟩; have HB1 := Lib.hid hb1; clear hb1) | (go_at_call 26; (with_reducible refine Calls.mono (H.out.2.2.2.1 _ HB1.out) ?_); rintro e w2 ⟨q, lv, v, rfl, ht2, hb2⟩; have H2 := Lib.hid (And.intro ht2 (And.intro hb2 ht2.len)); clear ht2 hb2) | (go_at_call 27; (with_reducible refine Calls.mono H2.out.2.2 ?_); rintro e w' ⟨rfl, rfl⟩))
  have hsl : Sees w2 1 (.slice A ls.length c) ls.length hs := H.out.2.1.sees.new (below_chain HB1.out H2.out.2.1)
  have HSL := Lib.hid hsl
  clear hsl
  go_wp2_with (at_builtin; refine wpList_append rfl (.tmp 40) (.tmp 41) 22 22 rfl w2.heap.size 28 _ 1 24 Tryd.underlying22 infoRow _ 0 [] rfl (by exact Owns.nil _ _ _) _ ls.length hs rfl (by exact src_of_sees _ Tryd.underlying22 HSL.out H.out.2.2.2.2.1) (by unfold maxLen; omega) (by omega) (Nat.le_refl _) ?_; intro nA nc w3 hown3 hg3 hbl3; have H3 := Lib.hid (And.intro hown3 hg3); clear hown3 hg3 hbl3)
  obtain ⟨nv, hnv⟩ : ∃ nv, nv = Value.slice nA ls.length nc := ⟨_, rfl⟩
  have hw23 : Below w2.heap.size w2 w3 := (Below.refl _ _).grown H3.out.2 (Nat.le_refl _) (fun k e => by cases e)
  have hI0 : TurnI W w3 w2.heap.size q lv v nv ls ls (fun _ => True) := by
    have ho := H3.out.1
    simp only [Nat.zero_add, List.nil_append] at ho
    rw [← hnv] at ho
    refine ⟨?_, ⟨hs, ho, fun i l hl => H.out.2.1.row i l hl⟩, H.out.2.1.byte, H.out.2.2.2.2.2.1, below_chain (below_chain HB1.out H2.out.2.1) hw23, (Array.getElem?_eq_some_iff.1 H2.out.1.blk).1, fun b e => (H2.out.1.lt b e).2, Nat.le_trans HB1.out.size H2.out.2.1.size, hw23.size⟩
    have ht := (H2.out.1.mono (T' := fun b => nv.ownBlock ≠ some b ∧ True) (fun b _ hb => ⟨fun e => by have := (ho.lt b e).1; omega, trivial⟩)).keep hw23
    refine ⟨ht.blk, ?_, ⟨ht.digs.own.mono HB1.out.size, ht.digs.dig⟩, ht.byte, Nat.le_trans HB1.out.size ht.new, ht.apart⟩
    obtain ⟨hs', r1, r2⟩ := ht.rows
    exact ⟨hs', r1.mono HB1.out.size, fun i l hl => by obtain ⟨x, e1, e2, e3⟩ := r2 i l hl; exact ⟨x, e1, e2, fun b e => ⟨Nat.le_trans HB1.out.size (e3 b e).1, (e3 b e).2⟩⟩⟩
  have HI0 := Lib.hid hI0
  have HNV := Lib.hid hnv
  clear hI0 hw23 hnv
  go_loopw [7] (fun vk wr => ∃ k : Nat, k ≤ xs.length ∧ vk = .int .i64 k ∧ Hid (∃ ls', ls'.length = ls.length ∧ TurnI W wr w2.heap.size q lv v nv ls' ls' (fun _ => True))) (fun vk _ => xs.length - (intOf vk).toNat)
  case atStart => exact ⟨0, Nat.zero_le _, rfl, ls, rfl, HI0.out⟩
  case round =>
    obtain ⟨k, hk, rfl, hI⟩ := hrel
    obtain ⟨ls', hl', hT⟩ := hI.out
    by_cases hlt : k < xs.length
    · obtain ⟨og, oo, ocap, oe, -, -, org⟩ := (H.out.2.2.2.2.2.2.sees.new hT.below).holds (by omega)
      injection oe with oe1 oe2 oe3
      subst oe1 oe3
      clear oe2
      obtain ⟨x, hx⟩ : ∃ x, xs[k]? = some x := ⟨_, List.getElem?_eq_getElem hlt⟩
      have hxr := at_flat (enc := askC) (s := 3) (fun _ _ => rfl) org k x hx
      obtain ⟨hxs, hxb⟩ := H.out.2.2.2.2.2.2.row x (List.mem_of_getElem? hx)
      obtain ⟨hA, hc, hxh, -, -⟩ := hxs.form
      have HX := Lib.hid (And.intro hxr (And.intro hxs (And.intro hxb (And.intro hxh (And.intro hl' hT)))))
      clear hxr hxs hxb hx org hl' hT
      have klI : (k : Int) < (xs.length : Int) := by omega
      go_upto_region 12 with (refine wpList_load_ask rfl (.tmp 51) rfl og (oo + k * 3) rfl x HX.out.1 ?_; rw [hxh])
      change Code.wp _ _ _ _ (wr.alloc (.cells #[.int .i64 x.ask, .int .i64 x.i, .slice hA x.l.length hc] 54))
      obtain ⟨wa, hwa⟩ : ∃ wa, wa = wr.alloc (.cells #[.int .i64 x.ask, .int .i64 x.i, .slice hA x.l.length hc] 54) := ⟨_, rfl⟩
      obtain ⟨p8, hp8⟩ : ∃ p8, p8 = wr.heap.size := ⟨_, rfl⟩
      rw [← hwa, ← hp8]
      have h8 : wa.heap[p8]? = some (.cells #[.int .i64 x.ask, .int .i64 x.i, .slice hA x.l.length hc] 54 (0, 0)) := by rw [hwa, hp8]; exact heap_alloc_new _ _
      have hTa := HX.out.2.2.2.2.2.new (T' := fun _ => True) (show Below wr.heap.size wr wa by rw [hwa]; exact (Below.refl _ _).alloc (Nat.le_refl _) _) (fun _ _ _ => trivial)
      have c80 : wa.cell? ⟨p8, 0, none⟩ = some (.int .i64 x.ask) := by rw [cell_of_row _ _ 0 _ _ _ h8]; rfl
      have c81 : wa.cell? ⟨p8, 1, none⟩ = some (.int .i64 x.i) := by rw [cell_of_row _ _ 1 _ _ _ h8]; rfl
      have c82 : wa.cell? ⟨p8, 2, none⟩ = some (.slice hA x.l.length hc) := by rw [cell_of_row _ _ 2 _ _ _ h8]; rfl
      have HA := Lib.hid (And.intro hTa (And.intro h8 (show w2.heap.size ≤ p8 by rw [hp8]; exact HX.out.2.2.2.2.2.old.2.2.2)))
      clear hTa h8 hwa hp8
      by_cases hbig : 100 < x.l.length
      · have hbigI : (100 : Int) < (x.l.length : Int) := by omega
        go_wp2_with fail
        go_roundw
        case rel => exact ⟨k + 1, by omega, by go_num, Lib.hid ⟨ls', HX.out.2.2.2.2.1, HA.out.1⟩⟩
        case measure => simp [intOf]; omega
      · have hbigI : ¬ (100 : Int) < (x.l.length : Int) := by omega
        by_cases hask : x.ask = 0
        · rw [hask] at c80
          by_cases hin : 0 ≤ x.i ∧ x.i < (ls.length : Int)
          · obtain ⟨i, hii⟩ : ∃ i : Nat, x.i = i := ⟨x.i.toNat, by omega⟩
            rw [hii] at c81 hin
            have hil : i < ls.length := by omega
            have i0 : (0 : Int) ≤ (i : Int) := by omega
            have iI : (i : Int) < (ls.length : Int) := by omega
            have HIN := Lib.hid hin
            clear hin
            have hsa : Sees wa 1 (.slice hA x.l.length hc) x.l.length (bytesV x.l) := by have := HX.out.2.1.new HA.out.1.below; rwa [HX.out.2.2.2.1] at this
            have HSA := Lib.hid hsa
            clear hsa
            obtain ⟨hs1, ho1, -⟩ := HA.out.1.now
            obtain ⟨ng, no, ncap, ne, -, -, -, -, -, -⟩ := ho1.holds (by rw [HX.out.2.2.2.2.1]; omega)
            rw [HNV.out] at ne
            injection ne with ne1 ne2 ne3
            subst ne1
            clear ne2 ne3 ho1 hs1
            go_upto_region 20 with (first | (at_builtin; refine wpList_append rfl (.tmp 70) (.tmp 72) 28 28 rfl wa.heap.size 5 _ 1 1 Tryd.underlying28 infoB _ 0 [] rfl (by exact Owns.nil _ _ _) _ x.l.length (bytesV x.l) rfl (by exact src_of_sees _ Tryd.underlying28 HSA.out (bytesV_one x.l)) (by unfold maxLen; omega) (by omega) (Nat.le_refl _) ?_; intro pA pc wb hown hg hbl; have hob : Owns wb wa.heap.size 1 (.slice pA x.l.length pc) x.l.length (bytesV x.l) := (by simpa using hown); have hab : Below wa.heap.size wa wb := below_nil hg; have hTb := HA.out.1.new (T' := fun b => (Value.slice pA x.l.length pc).ownBlock ≠ some b) hab (fun b hb _ e => by have := (hob.lt b e).1; omega); have c81b := (hab.cell (block_lt_of_cell c81)).trans c81; have h8b := (hab.block p8 (Array.getElem?_eq_some_iff.1 HA.out.2.1).1).trans HA.out.2.1; have cS := hTb.tree.set_in i (by rw [HX.out.2.2.2.2.1]; exact hil) _ x.l hob.sees HX.out.2.2.1 (by omega) (H.out.1.new hTb.below) (fun b hb => ⟨fun e => by have := (hTb.nvlt e).2; omega, fun e => by have := (hob.lt b e).2; omega⟩); have HB := Lib.hid (And.intro hob (And.intro hTb (And.intro h8b cS))); clear cS; clear hown hg hbl hob hab hTb h8b) | (go_at_call 28; (with_reducible refine Calls.mono HB.out.2.2.2 ?_); rintro e wc hsp; have hTc := HB.out.2.1.set hsp; obtain ⟨rfl, -, hkc⟩ := hsp; have hoc := HB.out.1.same (w' := wc) (fun b e => hkc.block b (HB.out.1.lt b e).2 (fun e2 => by have := HB.out.2.1.old.2.1 b e2; have := (HB.out.1.lt b e).1; have := HA.out.1.old.2.2.2; omega)) hkc.size; have h8c := (hkc.block p8 (Array.getElem?_eq_some_iff.1 HB.out.2.2.1).1 (fun e2 => by have := HB.out.2.1.old.2.1 p8 e2; have := HA.out.2.2; omega)).trans HB.out.2.2.1; have HC := Lib.hid (And.intro hoc (And.intro hTc h8c)); clear hTc hkc hoc h8c))
            obtain ⟨m, hm⟩ : ∃ m, m = x.l.length := ⟨_, rfl⟩
            have HM := Lib.hid hm
            rw [← hm] at HC HB ⊢
            have hm100 : m ≤ 100 := by omega
            clear hm
            go_wp2_with fail
            go_loopw [12] (fun vj wr => ∃ (j : Nat) (zs : List Int), j ≤ m ∧ vj = .int .i64 j ∧ Hid (zs.length = m ∧ Owns wr wa.heap.size 1 (.slice pA m pc) m (zs.map fun z => .int .u8 z) ∧ Keeps wc wr (fun b => (Value.slice pA m pc).ownBlock = some b))) (fun vj _ => m - (intOf vj).toNat)
            case atStart => exact ⟨0, x.l.map fun y : Nat => (y : Int), Nat.zero_le _, rfl, Lib.hid ⟨by simp [HM.out], by have := HC.out.1; rwa [bytes_ints] at this, Keeps.refl _ _⟩⟩
            case round =>
              obtain ⟨j, zs, hj, rfl, hZ⟩ := hrel
              by_cases hjl : j < m
              · have hjlI : (j : Int) < (m : Int) := by omega
                obtain ⟨pg, po, pcap, pe, -, -, -, -, prg, pth⟩ := hZ.out.2.1.holds (by omega)
                injection pe with pe1 pe2 pe3
                subst pe1 pe3
                clear pe2
                obtain ⟨z, hz⟩ : ∃ z, zs[j]? = some z := ⟨_, List.getElem?_eq_getElem (by rw [hZ.out.1]; exact hjl)⟩
                have cz := prg j (.int .u8 z) (by rw [List.getElem?_map, hz]; rfl)
                have fz := (there_owns hZ.out.2.1 hjl).2
                clear prg pth hz
                go_wp2_with fail
                go_roundw
                case rel =>
                  refine ⟨j + 1, zs.set j ((z + 1) % 256), by omega, by go_num, Lib.hid ⟨by rw [List.length_set]; exact hZ.out.1, ?_, hZ.out.2.2.setCell (a := ⟨pg, po + j, none⟩) (.inl rfl) _⟩⟩
                  rw [List.map_set]
                  exact own_put1 hZ.out.2.1 (by rw [List.length_map]; exact hZ.out.1) hjl _
                case measure => simp [intOf]; omega
              · obtain rfl : m = j := by omega
                have hTd := HC.out.2.1.foreign hZ.out.2.2 (fun b h e => h e) (fun b e => ⟨by have := (HC.out.1.lt b e).1; have := HA.out.1.old.2.2.2; omega, fun e2 => by have := (HA.out.1.nvlt e2).2; have := (HC.out.1.lt b e).1; omega⟩)
                have h8d := (hZ.out.2.2.block p8 (Array.getElem?_eq_some_iff.1 HC.out.2.2).1 (fun e => by have := (HC.out.1.lt p8 e).1; have := (Array.getElem?_eq_some_iff.1 HA.out.2.1).1; omega)).trans HC.out.2.2
                have d81 : wr.cell? ⟨p8, 1, none⟩ = some (.int .i64 (i : Int)) := by rw [cell_of_row _ _ 1 _ _ _ h8d]; simp [hii]
                have d82 : wr.cell? ⟨p8, 2, none⟩ = some (.slice hA m hc) := by rw [cell_of_row _ _ 2 _ _ _ h8d, HM.out]; rfl
                obtain ⟨hs2, ho2, -⟩ := hTd.now
                rw [HNV.out, HX.out.2.2.2.2.1] at ho2
                obtain ⟨t1, t2⟩ := there_owns ho2 hil
                obtain ⟨u9, hu9⟩ := Option.isSome_iff_exists.1 t1
                have HD := Lib.hid hTd
                clear hTd h8d ho2 t1
                go_upto_region 35 with fail
                change Code.wp _ _ _ _ (wr.setCell ⟨ng, no + i, none⟩ (.slice hA m hc))
                have hTe : TurnI W (wr.setCell ⟨ng, no + i, none⟩ (.slice hA m hc)) w2.heap.size q lv v nv (ls'.set i x.l) (ls'.set i x.l) (fun b => (Value.slice pA m pc).ownBlock ≠ some b) := by
                  have h1 := HD.out
                  have h2 := HNV.out
                  rw [← HX.out.2.2.2.2.1] at h2
                  rw [h2] at h1 ⊢
                  have h3 := HX.out.2.1
                  rw [HX.out.2.2.2.1, ← HM.out] at h3
                  exact h1.put (by rw [HX.out.2.2.2.2.1]; exact hil) (by rw [HM.out] at h3 ⊢; exact h3) HX.out.2.2.1 (by omega)
                obtain ⟨we, hwe⟩ : ∃ we, we = wr.setCell ⟨ng, no + i, none⟩ (.slice hA m hc) := ⟨_, rfl⟩
                rw [← hwe] at hTe ⊢
                have HE := Lib.hid (And.intro hTe (show (ls'.set i x.l).length = ls.length by rw [List.length_set]; exact HX.out.2.2.2.2.1))
                clear hTe hwe
                obtain ⟨D, hD⟩ : ∃ D, D = rootN ((ls'.set i x.l).map leafH) := ⟨_, rfl⟩
                have dD : Dig D := by rw [hD]; exact dig_root _ _ (Nat.le_refl _) (dig_leaves _)
                have cT := HE.out.1.tree.root (H.out.1.new HE.out.1.below) (by rw [HE.out.2]; omega)
                rw [← hD] at cT
                obtain ⟨hs9, hr9⟩ := HE.out.1.rowsAt
                rw [HNV.out] at hr9
                have q1 : ∀ w, (binOp .neq 24 (digV D) (digV D)).run Tryd.prog w = .ok (.bool false) w := fun w => by rw [run_neq_dig w D D dD dD, decide_eq_true rfl]; rfl
                have q4 : ∀ op x y w c d, (eqGuard op 24 x y (digV c) (digV d)).run Tryd.prog w = .ok () w := fun op x y w c d => run_guard_dig op x y w c d
                have HR := Lib.hid (And.intro cT (And.intro hr9 hD))
                clear cT hr9 hD dD
                go_wp2_with (first | (go_at_call 31; (with_reducible refine Calls.mono HR.out.1 ?_); rintro e wf ⟨rfl, hbf⟩; have cR := Root_any wf _ hs9 _ (H.out.1.new (below_chain' HE.out.1.below hbf)) (HR.out.2.1.new hbf) (by rw [HE.out.2]; omega) (fun l hl => by have := HE.out.1.few l hl; omega); rw [← HR.out.2.2] at cR; have HG := Lib.hid (And.intro cR hbf); clear cR hbf) | (go_at_call 14; (with_reducible refine Calls.mono HG.out.1 ?_); rintro e wg ⟨rfl, hbg⟩; have hTg := HE.out.1.new (T' := fun _ => True) (below_chain HG.out.2 hbg) (fun _ _ _ => trivial); have cL := hTg.tree.len; rw [HE.out.2] at cL; have HL := Lib.hid (And.intro cL hTg); clear cL hTg hbg) | (go_at_call 27; (with_reducible refine Calls.mono HL.out.1 ?_); rintro e w' ⟨rfl, rfl⟩))
                go_roundw
                case rel => exact ⟨k + 1, by omega, by go_num, Lib.hid ⟨_, HE.out.2, HL.out.2⟩⟩
                case measure => simp [intOf]; omega
          · by_cases hi0 : x.i < 0
            · have hn0 : ¬ 0 ≤ x.i := by omega
              have HIN := Lib.hid hin
              clear hin
              have hsa : Sees wa 1 (.slice hA x.l.length hc) x.l.length (bytesV x.l) := by have := HX.out.2.1.new HA.out.1.below; rwa [HX.out.2.2.2.1] at this
              have HSA := Lib.hid hsa
              clear hsa
              go_upto_region 20 with (first | (at_builtin; refine wpList_append rfl (.tmp 70) (.tmp 72) 28 28 rfl wa.heap.size 5 _ 1 1 Tryd.underlying28 infoB _ 0 [] rfl (by exact Owns.nil _ _ _) _ x.l.length (bytesV x.l) rfl (by exact src_of_sees _ Tryd.underlying28 HSA.out (bytesV_one x.l)) (by unfold maxLen; omega) (by omega) (Nat.le_refl _) ?_; intro pA pc wb hown hg hbl; have hob : Owns wb wa.heap.size 1 (.slice pA x.l.length pc) x.l.length (bytesV x.l) := (by simpa using hown); have hab : Below wa.heap.size wa wb := below_nil hg; have hTb := HA.out.1.new (T' := fun b => (Value.slice pA x.l.length pc).ownBlock ≠ some b) hab (fun b hb _ e => by have := (hob.lt b e).1; omega); have c81b := (hab.cell (block_lt_of_cell c81)).trans c81; have h8b := (hab.block p8 (Array.getElem?_eq_some_iff.1 HA.out.2.1).1).trans HA.out.2.1; have cS := hTb.tree.set_out x.i (.slice pA x.l.length pc) (by rw [HX.out.2.2.2.2.1]; omega); have HB := Lib.hid (And.intro hob (And.intro hTb (And.intro h8b cS))); clear cS; clear hown hg hbl hob hab hTb h8b) | (go_at_call 28; (with_reducible refine Calls.mono HB.out.2.2.2 ?_); rintro e w' ⟨rfl, rfl⟩))
              obtain ⟨m, hm⟩ : ∃ m, m = x.l.length := ⟨_, rfl⟩
              have HM := Lib.hid hm
              rw [← hm] at HB ⊢
              have hm100 : m ≤ 100 := by omega
              clear hm
              go_wp2_with fail
              go_loopw [12] (fun vj wr => ∃ (j : Nat) (zs : List Int), j ≤ m ∧ vj = .int .i64 j ∧ Hid (zs.length = m ∧ Owns wr wa.heap.size 1 (.slice pA m pc) m (zs.map fun z => .int .u8 z) ∧ Keeps wb wr (fun b => (Value.slice pA m pc).ownBlock = some b))) (fun vj _ => m - (intOf vj).toNat)
              case atStart => exact ⟨0, x.l.map fun y : Nat => (y : Int), Nat.zero_le _, rfl, Lib.hid ⟨by simp [HM.out], by have := HB.out.1; rwa [bytes_ints] at this, Keeps.refl _ _⟩⟩
              case round =>
                obtain ⟨j, zs, hj, rfl, hZ⟩ := hrel
                by_cases hjl : j < m
                · have hjlI : (j : Int) < (m : Int) := by omega
                  obtain ⟨pg, po, pcap, pe, -, -, -, -, prg, pth⟩ := hZ.out.2.1.holds (by omega)
                  injection pe with pe1 pe2 pe3
                  subst pe1 pe3
                  clear pe2
                  obtain ⟨z, hz⟩ : ∃ z, zs[j]? = some z := ⟨_, List.getElem?_eq_getElem (by rw [hZ.out.1]; exact hjl)⟩
                  have cz := prg j (.int .u8 z) (by rw [List.getElem?_map, hz]; rfl)
                  have fz := (there_owns hZ.out.2.1 hjl).2
                  clear prg pth hz
                  go_wp2_with fail
                  go_roundw
                  case rel =>
                    refine ⟨j + 1, zs.set j ((z + 1) % 256), by omega, by go_num, Lib.hid ⟨by rw [List.length_set]; exact hZ.out.1, ?_, hZ.out.2.2.setCell (a := ⟨pg, po + j, none⟩) (.inl rfl) _⟩⟩
                    rw [List.map_set]
                    exact own_put1 hZ.out.2.1 (by rw [List.length_map]; exact hZ.out.1) hjl _
                  case measure => simp [intOf]; omega
                · obtain rfl : m = j := by omega
                  have hTd := HB.out.2.1.foreign hZ.out.2.2 (fun b h e => h e) (fun b e => ⟨by have := (HB.out.1.lt b e).1; have := HA.out.1.old.2.2.2; omega, fun e2 => by have := (HA.out.1.nvlt e2).2; have := (HB.out.1.lt b e).1; omega⟩)
                  have HE := Lib.hid (And.intro hTd HX.out.2.2.2.2.1)
                  clear hTd
                  go_upto_region 35 with fail
                  obtain ⟨D, hD⟩ : ∃ D, D = rootN ((ls').map leafH) := ⟨_, rfl⟩
                  have dD : Dig D := by rw [hD]; exact dig_root _ _ (Nat.le_refl _) (dig_leaves _)
                  have cT := HE.out.1.tree.root (H.out.1.new HE.out.1.below) (by rw [HE.out.2]; omega)
                  rw [← hD] at cT
                  obtain ⟨hs9, hr9⟩ := HE.out.1.rowsAt
                  rw [HNV.out] at hr9
                  have q1 : ∀ w, (binOp .neq 24 (digV D) (digV D)).run Tryd.prog w = .ok (.bool false) w := fun w => by rw [run_neq_dig w D D dD dD, decide_eq_true rfl]; rfl
                  have q4 : ∀ op x y w c d, (eqGuard op 24 x y (digV c) (digV d)).run Tryd.prog w = .ok () w := fun op x y w c d => run_guard_dig op x y w c d
                  have HR := Lib.hid (And.intro cT (And.intro hr9 hD))
                  clear cT hr9 hD dD
                  go_wp2_with (first | (go_at_call 31; (with_reducible refine Calls.mono HR.out.1 ?_); rintro e wf ⟨rfl, hbf⟩; have cR := Root_any wf _ hs9 _ (H.out.1.new (below_chain' HE.out.1.below hbf)) (HR.out.2.1.new hbf) (by rw [HE.out.2]; omega) (fun l hl => by have := HE.out.1.few l hl; omega); rw [← HR.out.2.2] at cR; have HG := Lib.hid (And.intro cR hbf); clear cR hbf) | (go_at_call 14; (with_reducible refine Calls.mono HG.out.1 ?_); rintro e wg ⟨rfl, hbg⟩; have hTg := HE.out.1.new (T' := fun _ => True) (below_chain HG.out.2 hbg) (fun _ _ _ => trivial); have cL := hTg.tree.len; rw [HE.out.2] at cL; have HL := Lib.hid (And.intro cL hTg); clear cL hTg hbg) | (go_at_call 27; (with_reducible refine Calls.mono HL.out.1 ?_); rintro e w' ⟨rfl, rfl⟩))
                  go_roundw
                  case rel => exact ⟨k + 1, by omega, by go_num, Lib.hid ⟨_, HE.out.2, HL.out.2⟩⟩
                  case measure => simp [intOf]; omega
            · have hn0 : 0 ≤ x.i := by omega
              have hn1 : ¬ x.i < (ls.length : Int) := by omega
              have HIN := Lib.hid hin
              clear hin
              have hsa : Sees wa 1 (.slice hA x.l.length hc) x.l.length (bytesV x.l) := by have := HX.out.2.1.new HA.out.1.below; rwa [HX.out.2.2.2.1] at this
              have HSA := Lib.hid hsa
              clear hsa
              go_upto_region 20 with (first | (at_builtin; refine wpList_append rfl (.tmp 70) (.tmp 72) 28 28 rfl wa.heap.size 5 _ 1 1 Tryd.underlying28 infoB _ 0 [] rfl (by exact Owns.nil _ _ _) _ x.l.length (bytesV x.l) rfl (by exact src_of_sees _ Tryd.underlying28 HSA.out (bytesV_one x.l)) (by unfold maxLen; omega) (by omega) (Nat.le_refl _) ?_; intro pA pc wb hown hg hbl; have hob : Owns wb wa.heap.size 1 (.slice pA x.l.length pc) x.l.length (bytesV x.l) := (by simpa using hown); have hab : Below wa.heap.size wa wb := below_nil hg; have hTb := HA.out.1.new (T' := fun b => (Value.slice pA x.l.length pc).ownBlock ≠ some b) hab (fun b hb _ e => by have := (hob.lt b e).1; omega); have c81b := (hab.cell (block_lt_of_cell c81)).trans c81; have h8b := (hab.block p8 (Array.getElem?_eq_some_iff.1 HA.out.2.1).1).trans HA.out.2.1; have cS := hTb.tree.set_out x.i (.slice pA x.l.length pc) (by rw [HX.out.2.2.2.2.1]; omega); have HB := Lib.hid (And.intro hob (And.intro hTb (And.intro h8b cS))); clear cS; clear hown hg hbl hob hab hTb h8b) | (go_at_call 28; (with_reducible refine Calls.mono HB.out.2.2.2 ?_); rintro e w' ⟨rfl, rfl⟩))
              obtain ⟨m, hm⟩ : ∃ m, m = x.l.length := ⟨_, rfl⟩
              have HM := Lib.hid hm
              rw [← hm] at HB ⊢
              have hm100 : m ≤ 100 := by omega
              clear hm
              go_wp2_with fail
              go_loopw [12] (fun vj wr => ∃ (j : Nat) (zs : List Int), j ≤ m ∧ vj = .int .i64 j ∧ Hid (zs.length = m ∧ Owns wr wa.heap.size 1 (.slice pA m pc) m (zs.map fun z => .int .u8 z) ∧ Keeps wb wr (fun b => (Value.slice pA m pc).ownBlock = some b))) (fun vj _ => m - (intOf vj).toNat)
              case atStart => exact ⟨0, x.l.map fun y : Nat => (y : Int), Nat.zero_le _, rfl, Lib.hid ⟨by simp [HM.out], by have := HB.out.1; rwa [bytes_ints] at this, Keeps.refl _ _⟩⟩
              case round =>
                obtain ⟨j, zs, hj, rfl, hZ⟩ := hrel
                by_cases hjl : j < m
                · have hjlI : (j : Int) < (m : Int) := by omega
                  obtain ⟨pg, po, pcap, pe, -, -, -, -, prg, pth⟩ := hZ.out.2.1.holds (by omega)
                  injection pe with pe1 pe2 pe3
                  subst pe1 pe3
                  clear pe2
                  obtain ⟨z, hz⟩ : ∃ z, zs[j]? = some z := ⟨_, List.getElem?_eq_getElem (by rw [hZ.out.1]; exact hjl)⟩
                  have cz := prg j (.int .u8 z) (by rw [List.getElem?_map, hz]; rfl)
                  have fz := (there_owns hZ.out.2.1 hjl).2
                  clear prg pth hz
                  go_wp2_with fail
                  go_roundw
                  case rel =>
                    refine ⟨j + 1, zs.set j ((z + 1) % 256), by omega, by go_num, Lib.hid ⟨by rw [List.length_set]; exact hZ.out.1, ?_, hZ.out.2.2.setCell (a := ⟨pg, po + j, none⟩) (.inl rfl) _⟩⟩
                    rw [List.map_set]
                    exact own_put1 hZ.out.2.1 (by rw [List.length_map]; exact hZ.out.1) hjl _
                  case measure => simp [intOf]; omega
                · obtain rfl : m = j := by omega
                  have hTd := HB.out.2.1.foreign hZ.out.2.2 (fun b h e => h e) (fun b e => ⟨by have := (HB.out.1.lt b e).1; have := HA.out.1.old.2.2.2; omega, fun e2 => by have := (HA.out.1.nvlt e2).2; have := (HB.out.1.lt b e).1; omega⟩)
                  have HE := Lib.hid (And.intro hTd HX.out.2.2.2.2.1)
                  clear hTd
                  go_upto_region 35 with fail
                  obtain ⟨D, hD⟩ : ∃ D, D = rootN ((ls').map leafH) := ⟨_, rfl⟩
                  have dD : Dig D := by rw [hD]; exact dig_root _ _ (Nat.le_refl _) (dig_leaves _)
                  have cT := HE.out.1.tree.root (H.out.1.new HE.out.1.below) (by rw [HE.out.2]; omega)
                  rw [← hD] at cT
                  obtain ⟨hs9, hr9⟩ := HE.out.1.rowsAt
                  rw [HNV.out] at hr9
                  have q1 : ∀ w, (binOp .neq 24 (digV D) (digV D)).run Tryd.prog w = .ok (.bool false) w := fun w => by rw [run_neq_dig w D D dD dD, decide_eq_true rfl]; rfl
                  have q4 : ∀ op x y w c d, (eqGuard op 24 x y (digV c) (digV d)).run Tryd.prog w = .ok () w := fun op x y w c d => run_guard_dig op x y w c d
                  have HR := Lib.hid (And.intro cT (And.intro hr9 hD))
                  clear cT hr9 hD dD
                  go_wp2_with (first | (go_at_call 31; (with_reducible refine Calls.mono HR.out.1 ?_); rintro e wf ⟨rfl, hbf⟩; have cR := Root_any wf _ hs9 _ (H.out.1.new (below_chain' HE.out.1.below hbf)) (HR.out.2.1.new hbf) (by rw [HE.out.2]; omega) (fun l hl => by have := HE.out.1.few l hl; omega); rw [← HR.out.2.2] at cR; have HG := Lib.hid (And.intro cR hbf); clear cR hbf) | (go_at_call 14; (with_reducible refine Calls.mono HG.out.1 ?_); rintro e wg ⟨rfl, hbg⟩; have hTg := HE.out.1.new (T' := fun _ => True) (below_chain HG.out.2 hbg) (fun _ _ _ => trivial); have cL := hTg.tree.len; rw [HE.out.2] at cL; have HL := Lib.hid (And.intro cL hTg); clear cL hTg hbg) | (go_at_call 27; (with_reducible refine Calls.mono HL.out.1 ?_); rintro e w' ⟨rfl, rfl⟩))
                  go_roundw
                  case rel => exact ⟨k + 1, by omega, by go_num, Lib.hid ⟨_, HE.out.2, HL.out.2⟩⟩
                  case measure => simp [intOf]; omega
        · have hask1 : (x.ask == 0) = false := by simpa using hask
          by_cases hin : 0 ≤ x.i ∧ x.i < (ls.length : Int)
          · obtain ⟨i, hii⟩ : ∃ i : Nat, x.i = i := ⟨x.i.toNat, by omega⟩
            rw [hii] at c81 hin
            have hil : i < ls.length := by omega
            have i0 : (0 : Int) ≤ (i : Int) := by omega
            have iI : (i : Int) < (ls.length : Int) := by omega
            have HIN := Lib.hid hin
            clear hin
            obtain ⟨hs1, ho1, hr1⟩ := HA.out.1.now
            obtain ⟨ng, no, ncap, ne, -, -, -, -, hng, -⟩ := ho1.holds (by rw [HX.out.2.2.2.2.1]; omega)
            obtain ⟨l0, hl0⟩ : ∃ l0, ls'[i]? = some l0 := ⟨_, List.getElem?_eq_getElem (by rw [HX.out.2.2.2.2.1]; exact hil)⟩
            obtain ⟨h0, e0, s0⟩ := hr1 i l0 hl0
            obtain ⟨zA, zc, rfl, -, -⟩ := s0.form
            have cn := hng i _ e0
            have hngl := block_lt_of_cell cn
            rw [HNV.out] at ne
            injection ne with ne1 ne2 ne3
            subst ne1
            clear ne2 ne3 ho1 hr1 e0 hng
            have hl100 := HA.out.1.few l0 (List.mem_of_getElem? hl0)
            have hlm : i < ls'.length := by rw [HX.out.2.2.2.2.1]; exact hil
            have cG := HA.out.1.tree.get_in i l0 hl0 (by omega)
            have HQ := Lib.hid (And.intro cG (And.intro hl0 (And.intro hlm s0)))
            clear cG hl0 hlm s0
            obtain ⟨P, hP⟩ : ∃ P, P = proofN i (ls'.map leafH) := ⟨_, rfl⟩
            have HP := Lib.hid hP
            clear hP
            go_upto_region 31 with (first | (go_at_call 29; (with_reducible refine Calls.mono HQ.out.1 ?_); rintro e wb ⟨pA, pc, rfl, hob, hab⟩; have hTb := HA.out.1.new (T' := fun b => (Value.slice pA l0.length pc).ownBlock ≠ some b) hab (fun b hb _ e => by have := (hob.lt b e).1; omega); have c81b := (hab.cell (block_lt_of_cell c81)).trans c81; have cP := hTb.tree.prove_in i HQ.out.2.2.1 (H.out.1.new hTb.below) (by have := HX.out.2.2.2.2.1; omega); rw [← HP.out] at cP; have HB := Lib.hid (And.intro hob (And.intro hTb (And.intro hab cP))); clear hob hab hTb cP) | (go_at_call 30; (with_reducible refine Calls.mono HB.out.2.2.2 ?_); rintro e wc ⟨rA, rc, rfl, hoc, hbc⟩; have hTc := HB.out.2.1.new (T' := fun b => (Value.slice pA l0.length pc).ownBlock ≠ some b) hbc (fun b _ h => h); have c81c := (hbc.cell (block_lt_of_cell c81b)).trans c81b; obtain ⟨hs9, hr9⟩ := hTc.rowsAt; rw [HNV.out] at hr9; have cQ := Prove_any wc _ hs9 ls' i (H.out.1.new hTc.below) hr9 (by have := HX.out.2.2.2.2.1; omega) (fun l hl => by have := hTc.few l hl; omega) HQ.out.2.2.1; rw [← HP.out] at cQ; have HC := Lib.hid (And.intro hoc (And.intro hTc (And.intro hbc cQ))); clear hoc hTc hbc cQ hr9) | (go_at_call 18; (with_reducible refine Calls.mono HC.out.2.2.2 ?_); rintro e wd ⟨sA, sc, rfl, hod, hbd⟩; have hTd := HC.out.2.1.new (T' := fun b => (Value.slice pA l0.length pc).ownBlock ≠ some b) hbd (fun b _ h => h); have c81d := (hbd.cell (block_lt_of_cell c81c)).trans c81c; have hbad := below_chain (below_chain HB.out.2.2.1 HC.out.2.2.1) hbd; have cnd := (hbad.cell (block_lt_of_cell cn)).trans cn; have cD := digests_same wd _ _ P (HC.out.1.digs.new hbd) hod.digs; have HDD := Lib.hid (And.intro cD (And.intro hTd (And.intro hbad (HB.out.1.same (fun b e => (below_chain HC.out.2.2.1 hbd).block b (HB.out.1.lt b e).2) (below_chain HC.out.2.2.1 hbd).size)))); clear hod hTd hbad hbd cD) | (go_at_call 19; (with_reducible refine Calls.mono HDD.out.1 ?_); rintro e we ⟨rfl, hbe⟩; have hTe := HDD.out.2.1.new (T' := fun b => (Value.slice pA l0.length pc).ownBlock ≠ some b) hbe (fun b _ h => h); have c81e := (hbe.cell (block_lt_of_cell c81d)).trans c81d; have cne := (hbe.cell (block_lt_of_cell cnd)).trans cnd; have hoe := HDD.out.2.2.2.same (fun b e => hbe.block b (HDD.out.2.2.2.lt b e).2) hbe.size; have cB := bytes_any we _ _ l0 l0 hoe.sees (HQ.out.2.2.2.new hTe.below); rw [decide_eq_true rfl] at cB; have HY := Lib.hid (And.intro cB (And.intro hTe hoe)); clear cB hTe hoe hbe) | (go_at_call 24; (with_reducible refine Calls.mono HY.out.1 ?_); rintro e wf ⟨rfl, hbf⟩; have hTf := HY.out.2.1.new (T' := fun b => (Value.slice pA l0.length pc).ownBlock ≠ some b) hbf (fun b _ h => h); have hof := HY.out.2.2.same (fun b e => hbf.block b (HY.out.2.2.lt b e).2) hbf.size; have HZZ := Lib.hid (And.intro hof hTf); clear hof hTf hbf))
            obtain ⟨m, hm⟩ : ∃ m, m = l0.length := ⟨_, rfl⟩
            have HM := Lib.hid hm
            rw [← hm] at HZZ HB HC HDD HY ⊢
            have hm100 : m ≤ 100 := by omega
            clear hm
            go_wp2_with fail
            go_loopw [19] (fun vj wr => ∃ (j : Nat) (zs : List Int), j ≤ m ∧ vj = .int .i64 j ∧ Hid (zs.length = m ∧ Owns wr wa.heap.size 1 (.slice pA m pc) m (zs.map fun z => .int .u8 z) ∧ Keeps wf wr (fun b => (Value.slice pA m pc).ownBlock = some b))) (fun vj _ => m - (intOf vj).toNat)
            case atStart => exact ⟨0, l0.map fun y : Nat => (y : Int), Nat.zero_le _, rfl, Lib.hid ⟨by simp [HM.out], by have := HZZ.out.1; rwa [bytes_ints] at this, Keeps.refl _ _⟩⟩
            case round =>
              obtain ⟨j, zs, hj, rfl, hZ⟩ := hrel
              by_cases hjl : j < m
              · have hjlI : (j : Int) < (m : Int) := by omega
                obtain ⟨pg, po, pcap, pe, -, -, -, -, prg, pth⟩ := hZ.out.2.1.holds (by omega)
                injection pe with pe1 pe2 pe3
                subst pe1 pe3
                clear pe2
                obtain ⟨z, hz⟩ : ∃ z, zs[j]? = some z := ⟨_, List.getElem?_eq_getElem (by rw [hZ.out.1]; exact hjl)⟩
                have cz := prg j (.int .u8 z) (by rw [List.getElem?_map, hz]; rfl)
                have fz := (there_owns hZ.out.2.1 hjl).2
                clear prg pth hz
                go_wp2_with fail
                go_roundw
                case rel =>
                  refine ⟨j + 1, zs.set j ((z + 1) % 256), by omega, by go_num, Lib.hid ⟨by rw [List.length_set]; exact hZ.out.1, ?_, hZ.out.2.2.setCell (a := ⟨pg, po + j, none⟩) (.inl rfl) _⟩⟩
                  rw [List.map_set]
                  exact own_put1 hZ.out.2.1 (by rw [List.length_map]; exact hZ.out.1) hjl _
                case measure => simp [intOf]; omega
              · obtain rfl : m = j := by omega
                have hTd := HZZ.out.2.foreign hZ.out.2.2 (fun b h e => h e) (fun b e => ⟨by have := (HZZ.out.1.lt b e).1; have := HA.out.1.old.2.2.2; omega, fun e2 => by have := (HA.out.1.nvlt e2).2; have := (HZZ.out.1.lt b e).1; omega⟩)
                have HE := Lib.hid (And.intro hTd HX.out.2.2.2.2.1)
                clear hTd
                go_upto_region 35 with fail
                obtain ⟨D, hD⟩ : ∃ D, D = rootN ((ls').map leafH) := ⟨_, rfl⟩
                have dD : Dig D := by rw [hD]; exact dig_root _ _ (Nat.le_refl _) (dig_leaves _)
                have cT := HE.out.1.tree.root (H.out.1.new HE.out.1.below) (by rw [HE.out.2]; omega)
                rw [← hD] at cT
                obtain ⟨hs9, hr9⟩ := HE.out.1.rowsAt
                rw [HNV.out] at hr9
                have q1 : ∀ w, (binOp .neq 24 (digV D) (digV D)).run Tryd.prog w = .ok (.bool false) w := fun w => by rw [run_neq_dig w D D dD dD, decide_eq_true rfl]; rfl
                have q4 : ∀ op x y w c d, (eqGuard op 24 x y (digV c) (digV d)).run Tryd.prog w = .ok () w := fun op x y w c d => run_guard_dig op x y w c d
                have HR := Lib.hid (And.intro cT (And.intro hr9 hD))
                clear cT hr9 hD dD
                go_wp2_with (first | (go_at_call 31; (with_reducible refine Calls.mono HR.out.1 ?_); rintro e wf ⟨rfl, hbf⟩; have cR := Root_any wf _ hs9 _ (H.out.1.new (below_chain' HE.out.1.below hbf)) (HR.out.2.1.new hbf) (by rw [HE.out.2]; omega) (fun l hl => by have := HE.out.1.few l hl; omega); rw [← HR.out.2.2] at cR; have HG := Lib.hid (And.intro cR hbf); clear cR hbf) | (go_at_call 14; (with_reducible refine Calls.mono HG.out.1 ?_); rintro e wg ⟨rfl, hbg⟩; have hTg := HE.out.1.new (T' := fun _ => True) (below_chain HG.out.2 hbg) (fun _ _ _ => trivial); have cL := hTg.tree.len; rw [HE.out.2] at cL; have HL := Lib.hid (And.intro cL hTg); clear cL hTg hbg) | (go_at_call 27; (with_reducible refine Calls.mono HL.out.1 ?_); rintro e w' ⟨rfl, rfl⟩))
                go_roundw
                case rel => exact ⟨k + 1, by omega, by go_num, Lib.hid ⟨_, HE.out.2, HL.out.2⟩⟩
                case measure => simp [intOf]; omega
          · by_cases hi0 : x.i < 0
            · have hn0 : ¬ 0 ≤ x.i := by omega
              have HIN := Lib.hid hin
              clear hin
              have cG := HA.out.1.tree.get_out x.i (by rw [HX.out.2.2.2.2.1]; omega)
              have cP := HA.out.1.tree.prove_out x.i (by rw [HX.out.2.2.2.2.1]; omega)
              obtain ⟨hs9, hr9⟩ := HA.out.1.rowsAt
              rw [HNV.out] at hr9
              have cQ := Prove_none wa _ hs9 ls' x.i (H.out.1.new HA.out.1.below) hr9 (by have := HX.out.2.2.2.2.1; omega) (fun l hl => by have := HA.out.1.few l hl; omega) (by rw [HX.out.2.2.2.2.1]; omega)
              have HQ := Lib.hid (And.intro cG (And.intro cP cQ))
              clear cG cP cQ hr9
              go_upto_region 31 with (first | (go_at_call 29; (with_reducible refine Calls.mono HQ.out.1 ?_); rintro e w' ⟨rfl, rfl⟩) | (go_at_call 30; (with_reducible refine Calls.mono HQ.out.2.1 ?_); rintro e w' ⟨rfl, rfl⟩) | (go_at_call 18; (with_reducible refine Calls.mono HQ.out.2.2 ?_); rintro e wb ⟨rfl, hab⟩; have hTb := HA.out.1.new (T' := fun _ => True) hab (fun _ _ _ => trivial); have c81b := (hab.cell (block_lt_of_cell c81)).trans c81; have cD := digests_same wb (.slice none 0 0) (.slice none 0 0) [] ⟨Sees.nil _ _, by simp⟩ ⟨Sees.nil _ _, by simp⟩; have HB := Lib.hid (And.intro hTb cD); clear hTb cD hab) | (go_at_call 19; (with_reducible refine Calls.mono HB.out.2 ?_); rintro e wc ⟨rfl, hbc⟩; have hTc := HB.out.1.new (T' := fun _ => True) hbc (fun _ _ _ => trivial); have HE := Lib.hid (And.intro hTc HX.out.2.2.2.2.1); clear hTc hbc))
              go_wp2_with fail
              go_loopw [19] (fun vj wr => vj = .int .i64 0 ∧ wr = wc) (fun _ _ => 0)
              case atStart => exact ⟨rfl, rfl⟩
              case round =>
                obtain ⟨rfl, rfl⟩ := hrel
                go_upto_region 35 with fail
                obtain ⟨D, hD⟩ : ∃ D, D = rootN ((ls').map leafH) := ⟨_, rfl⟩
                have dD : Dig D := by rw [hD]; exact dig_root _ _ (Nat.le_refl _) (dig_leaves _)
                have cT := HE.out.1.tree.root (H.out.1.new HE.out.1.below) (by rw [HE.out.2]; omega)
                rw [← hD] at cT
                obtain ⟨hs9, hr9⟩ := HE.out.1.rowsAt
                rw [HNV.out] at hr9
                have q1 : ∀ w, (binOp .neq 24 (digV D) (digV D)).run Tryd.prog w = .ok (.bool false) w := fun w => by rw [run_neq_dig w D D dD dD, decide_eq_true rfl]; rfl
                have q4 : ∀ op x y w c d, (eqGuard op 24 x y (digV c) (digV d)).run Tryd.prog w = .ok () w := fun op x y w c d => run_guard_dig op x y w c d
                have HR := Lib.hid (And.intro cT (And.intro hr9 hD))
                clear cT hr9 hD dD
                go_wp2_with (first | (go_at_call 31; (with_reducible refine Calls.mono HR.out.1 ?_); rintro e wf ⟨rfl, hbf⟩; have cR := Root_any wf _ hs9 _ (H.out.1.new (below_chain' HE.out.1.below hbf)) (HR.out.2.1.new hbf) (by rw [HE.out.2]; omega) (fun l hl => by have := HE.out.1.few l hl; omega); rw [← HR.out.2.2] at cR; have HG := Lib.hid (And.intro cR hbf); clear cR hbf) | (go_at_call 14; (with_reducible refine Calls.mono HG.out.1 ?_); rintro e wg ⟨rfl, hbg⟩; have hTg := HE.out.1.new (T' := fun _ => True) (below_chain HG.out.2 hbg) (fun _ _ _ => trivial); have cL := hTg.tree.len; rw [HE.out.2] at cL; have HL := Lib.hid (And.intro cL hTg); clear cL hTg hbg) | (go_at_call 27; (with_reducible refine Calls.mono HL.out.1 ?_); rintro e w' ⟨rfl, rfl⟩))
                go_roundw
                case rel => exact ⟨k + 1, by omega, by go_num, Lib.hid ⟨_, HE.out.2, HL.out.2⟩⟩
                case measure => simp [intOf]; omega
            · have hn0 : 0 ≤ x.i := by omega
              have hn1 : ¬ x.i < (ls.length : Int) := by omega
              have HIN := Lib.hid hin
              clear hin
              have cG := HA.out.1.tree.get_out x.i (by rw [HX.out.2.2.2.2.1]; omega)
              have cP := HA.out.1.tree.prove_out x.i (by rw [HX.out.2.2.2.2.1]; omega)
              obtain ⟨hs9, hr9⟩ := HA.out.1.rowsAt
              rw [HNV.out] at hr9
              have cQ := Prove_none wa _ hs9 ls' x.i (H.out.1.new HA.out.1.below) hr9 (by have := HX.out.2.2.2.2.1; omega) (fun l hl => by have := HA.out.1.few l hl; omega) (by rw [HX.out.2.2.2.2.1]; omega)
              have HQ := Lib.hid (And.intro cG (And.intro cP cQ))
              clear cG cP cQ hr9
              go_upto_region 31 with (first | (go_at_call 29; (with_reducible refine Calls.mono HQ.out.1 ?_); rintro e w' ⟨rfl, rfl⟩) | (go_at_call 30; (with_reducible refine Calls.mono HQ.out.2.1 ?_); rintro e w' ⟨rfl, rfl⟩) | (go_at_call 18; (with_reducible refine Calls.mono HQ.out.2.2 ?_); rintro e wb ⟨rfl, hab⟩; have hTb := HA.out.1.new (T' := fun _ => True) hab (fun _ _ _ => trivial); have c81b := (hab.cell (block_lt_of_cell c81)).trans c81; have cD := digests_same wb (.slice none 0 0) (.slice none 0 0) [] ⟨Sees.nil _ _, by simp⟩ ⟨Sees.nil _ _, by simp⟩; have HB := Lib.hid (And.intro hTb cD); clear hTb cD hab) | (go_at_call 19; (with_reducible refine Calls.mono HB.out.2 ?_); rintro e wc ⟨rfl, hbc⟩; have hTc := HB.out.1.new (T' := fun _ => True) hbc (fun _ _ _ => trivial); have HE := Lib.hid (And.intro hTc HX.out.2.2.2.2.1); clear hTc hbc))
              go_wp2_with fail
              go_loopw [19] (fun vj wr => vj = .int .i64 0 ∧ wr = wc) (fun _ _ => 0)
              case atStart => exact ⟨rfl, rfl⟩
              case round =>
                obtain ⟨rfl, rfl⟩ := hrel
                go_upto_region 35 with fail
                obtain ⟨D, hD⟩ : ∃ D, D = rootN ((ls').map leafH) := ⟨_, rfl⟩
                have dD : Dig D := by rw [hD]; exact dig_root _ _ (Nat.le_refl _) (dig_leaves _)
                have cT := HE.out.1.tree.root (H.out.1.new HE.out.1.below) (by rw [HE.out.2]; omega)
                rw [← hD] at cT
                obtain ⟨hs9, hr9⟩ := HE.out.1.rowsAt
                rw [HNV.out] at hr9
                have q1 : ∀ w, (binOp .neq 24 (digV D) (digV D)).run Tryd.prog w = .ok (.bool false) w := fun w => by rw [run_neq_dig w D D dD dD, decide_eq_true rfl]; rfl
                have q4 : ∀ op x y w c d, (eqGuard op 24 x y (digV c) (digV d)).run Tryd.prog w = .ok () w := fun op x y w c d => run_guard_dig op x y w c d
                have HR := Lib.hid (And.intro cT (And.intro hr9 hD))
                clear cT hr9 hD dD
                go_wp2_with (first | (go_at_call 31; (with_reducible refine Calls.mono HR.out.1 ?_); rintro e wf ⟨rfl, hbf⟩; have cR := Root_any wf _ hs9 _ (H.out.1.new (below_chain' HE.out.1.below hbf)) (HR.out.2.1.new hbf) (by rw [HE.out.2]; omega) (fun l hl => by have := HE.out.1.few l hl; omega); rw [← HR.out.2.2] at cR; have HG := Lib.hid (And.intro cR hbf); clear cR hbf) | (go_at_call 14; (with_reducible refine Calls.mono HG.out.1 ?_); rintro e wg ⟨rfl, hbg⟩; have hTg := HE.out.1.new (T' := fun _ => True) (below_chain HG.out.2 hbg) (fun _ _ _ => trivial); have cL := hTg.tree.len; rw [HE.out.2] at cL; have HL := Lib.hid (And.intro cL hTg); clear cL hTg hbg) | (go_at_call 27; (with_reducible refine Calls.mono HL.out.1 ?_); rintro e w' ⟨rfl, rfl⟩))
                go_roundw
                case rel => exact ⟨k + 1, by omega, by go_num, Lib.hid ⟨_, HE.out.2, HL.out.2⟩⟩
                case measure => simp [intOf]; omega
    · have hge : ¬ (k : Int) < (xs.length : Int) := by omega
      have HT := Lib.hid hT
      clear hT hl'
      go_wp2_with (go_at_call 11; (with_reducible refine Calls.mono (HW.out _ HT.out.below) ?_); rintro e w5 ⟨rfl, hb5⟩)
      go_ret
      exact ⟨rfl, below_chain HT.out.below hb5⟩
end Go.Proofs.YtplcjgpmainbnaaDoor.MkW
