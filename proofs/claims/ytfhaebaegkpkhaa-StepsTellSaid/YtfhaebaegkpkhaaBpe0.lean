/- bpe.New where there are no pairs. -/
import Derived.Test.YtfhaebaegkpkhaaByt
import Derived.Test.YtfhaebaegkpkhaaWt
import Derived.Test.YtfhaebaegkpkhaaQTail
import Derived.Test.YtfhaebaegkpkhaaIMap
import Derived.Laws.Tables
import Derived.Carry
import Derived.Lib.SliceRun
set_option linter.unusedVariables false
set_option linter.unusedSimpArgs false
namespace Go.Proofs.Ytfhaebaegkpkhaa.Bpe
open Go.RowKit OwnS Byt QTail
attribute [local go_sem ↓] Kit.execOp_call_slot
attribute [local go_sem] Kit.callSlot_func
def bpeErr0 (al : List Nat) : Int := if al.length = 0 ∨ 512 < al.length then 13 else if al.Nodup then 0 else 15
set_option maxRecDepth 100000 in
theorem clone_pairs0 (W : World) (A : Option Addr) (c : Nat) : Calls Try.prog 115 #[.slice A 0 c] W fun e w' => ∃ A' c', e = .returned (.slice A' 0 c') ∧ Below W.heap.size W w' := by
  have qT : ∀ (w : World) (a : Option Addr) (n c n' c' : Nat), (binOp .eql 25 (.slice a n c) (.slice none n' c')).run Try.prog w = .ok (.bool a.isNone) w := fun w a n c n' c' => Lib.run_eql_slice_nil w _ _ a n c n' c' Try.underlying25
  cases A with
  | none =>
    go_enter Try.func115, Try.ntmps115
    go_wp2_with fail
    go_ret
    exact ⟨none, 0, rfl, Below.refl _ _⟩
  | some a =>
    go_enter Try.func115, Try.ntmps115
    go_wp2_with fail
    go_ret
    exact ⟨_, _, rfl, (Below.refl _ _).alloc (Nat.le_refl _) _⟩
/-- A coder's cells: its texts, the tokens of all bytes, its pairs, their order, the first one's token. -/
def cod (t : Value) (O : List Int) (m s n : Value) : List Value := t :: (intsV O ++ [m, s, n])
theorem cod_length (t : Value) (O : List Int) (m s n : Value) : (cod t O m s n).length = O.length + 4 := by simp [cod, intsV_length]
theorem cod_at {t : Value} {O : List Int} {m s n : Value} {k : Nat} {x : Int} (h : O[k]? = some x) : (cod t O m s n)[1 + k]? = some (.int .i64 x) := by
  have hk := (List.getElem?_eq_some_iff.1 h).1
  unfold cod
  rw [Nat.add_comm, List.getElem?_cons_succ, List.getElem?_append_left (by rw [intsV_length]; exact hk)]
  unfold intsV
  rw [List.getElem?_map, h]
  rfl
theorem cod_set (t : Value) (O : List Int) (m s n : Value) (k : Nat) (x : Int) (h : k < O.length) : (cod t O m s n).set (1 + k) (.int .i64 x) = cod t (O.set k x) m s n := by
  unfold cod
  rw [Nat.add_comm, List.set_cons_succ, List.set_append_left _ _ (by rw [intsV_length]; exact h)]
  unfold intsV
  rw [List.map_set]
theorem cod_set0 (t t' : Value) (O : List Int) (m s n : Value) : (cod t O m s n).set 0 t' = cod t' O m s n := rfl
theorem made_coder (m : Nat) (A : Option Addr) (c : Nat) (n : Int) : (((Try.zeroCells203.setIfInBounds 257 (.map (some m))).setIfInBounds 258 (.slice A 0 c)).setIfInBounds 259 (.int .i64 n)) = (cod (.slice none 0 0) (List.replicate 256 0) (.map (some m)) (.slice A 0 c) (.int .i64 n)).toArray := by kernel_rfl
structure CodAt (W w : World) (q i : Nat) (O : List Int) (tA : Option Addr) (tc : Nat) (m s n : Value) (xs : List Value) : Prop where
  below : Below W.heap.size W w
  hq : W.heap.size ≤ q
  blk : w.heap[q]? = some (.cells (cod (.slice tA i tc) O m s n).toArray 203 (0, 0))
  own : Owns w W.heap.size 1 (.slice tA i tc) i xs
  ne : ∀ k, (Value.slice tA i tc).ownBlock = some k → k ≠ q
  len : O.length = 256
theorem CodAt.put {W w : World} {q i : Nat} {O : List Int} {tA : Option Addr} {tc : Nat} {m s n : Value} {xs : List Value} (h : CodAt W w q i O tA tc m s n xs) (k : Nat) (x : Int) (hk : k < 256) : CodAt W (w.setCell ⟨q, 1 + k, none⟩ (.int .i64 x)) q i (O.set k x) tA tc m s n xs :=
  ⟨h.below.setCell h.hq _, h.hq, by rw [set_cells h.blk, cod_set _ _ _ _ _ _ _ (by rw [h.len]; exact hk)], h.own.setCell h.ne _, h.ne, by rw [List.length_set, h.len]⟩
theorem CodAt.alloc {W w : World} {q i : Nat} {O : List Int} {tA : Option Addr} {tc : Nat} {m s n : Value} {xs : List Value} (h : CodAt W w q i O tA tc m s n xs) (o : Obj) : CodAt W (w.alloc o) q i O tA tc m s n xs :=
  ⟨h.below.alloc h.below.size _, h.hq, (Below.heap_alloc _ _ _ (Array.getElem?_eq_some_iff.1 h.blk).1).trans h.blk, h.own.alloc _, h.ne, h.len⟩
theorem CodAt.cell {W w : World} {q i : Nat} {O : List Int} {tA : Option Addr} {tc : Nat} {m s n : Value} {xs : List Value} (h : CodAt W w q i O tA tc m s n xs) {k : Nat} {x : Int} (hx : O[k]? = some x) : w.cell? ⟨q, 1 + k, none⟩ = some (.int .i64 x) := by
  rw [cell_of_row _ _ _ _ _ _ h.blk, List.getElem?_toArray, cod_at hx]
theorem CodAt.cell0 {W w : World} {q i : Nat} {O : List Int} {tA : Option Addr} {tc : Nat} {m s n : Value} {xs : List Value} (h : CodAt W w q i O tA tc m s n xs) : w.cell? ⟨q, 0, none⟩ = some (.slice tA i tc) := by
  rw [cell_of_row _ _ _ _ _ _ h.blk]; rfl
theorem infoS : ElemInfo Try.prog 24 (.slice none 0 0) 1 24 := elemInfo (by kernel_rfl) rfl rfl
set_option maxRecDepth 100000 in
set_option maxHeartbeats 2000000 in
theorem new_some (W : World) (v : Value) (al : List Nat) (pA : Option Addr) (pc : Nat) (h : Sees W 1 v al.length (bytesV al)) (hb : ∀ x ∈ al, x < 256) (h0 : 1 ≤ al.length) (h5 : al.length ≤ 512) :
    Calls Try.prog 91 #[v, .slice pA 0 pc] W fun e w' => ∃ p, e = .returned (.tuple #[p, .int .i64 (bpeErr0 al)]) ∧ Below W.heap.size W w' ∧ (bpeErr0 al = 0 → ∃ q A' c', p = .pointer (some ⟨q, 0, none⟩) ∧ W.heap.size ≤ q ∧ w'.cell? ⟨q, 0, none⟩ = some (.slice A' al.length c')) := by
  obtain ⟨A, c, rfl, hc1, hc2⟩ := h.form
  have z0 : ¬ (al.length : Int) = 0 := by omega
  have z1 : ¬ (512 : Int) < (al.length : Int) := by omega
  have H := Lib.hid (And.intro h hb)
  obtain ⟨E, hE⟩ : ∃ E, E = bpeErr0 al := ⟨_, rfl⟩
  rw [← hE]
  have HE := Lib.hid hE
  clear h hb hE
  have hmm : ∀ w : World, (Instr.makeMap 199 none).run Try.prog w = .ok (.map (some w.heap.size)) (w.alloc (.map #[] 0)) := fun w => rfl
  go_enter Try.func91, Try.ntmps91
  go_upto_region 4 with (go_at_call 115; (with_reducible refine Calls.mono (clone_pairs0 _ _ _) ?_); rintro e w1 ⟨A1, c1, rfl, hb1⟩; have HB1 := Lib.hid hb1; clear hb1)
  clear hmm
  rw [made_coder]
  obtain ⟨s, hs⟩ : ∃ s, s = Value.slice A1 0 c1 := ⟨_, rfl⟩
  obtain ⟨m, hm⟩ : ∃ m, m = Value.map (some W.heap.size) := ⟨_, rfl⟩
  obtain ⟨n, hn⟩ : ∃ n, n = Value.int IntKind.i64 (al.length : Int) := ⟨_, rfl⟩
  obtain ⟨q, hq⟩ : ∃ q, q = w1.heap.size := ⟨_, rfl⟩
  obtain ⟨w2, hw2⟩ : ∃ w2, w2 = w1.alloc (.cells (cod (.slice none 0 0) (List.replicate 256 0) m s n).toArray 203) := ⟨_, rfl⟩
  have h2 : CodAt W w2 q 0 (List.replicate 256 0) none 0 m s n [] := by
    have hb1 : Below W.heap.size W w1 := ((Below.refl _ _).alloc (Nat.le_refl _) _).trans (HB1.out.mono (by simp))
    rw [hw2, hq]
    exact ⟨hb1.alloc hb1.size _, hb1.size, heap_alloc_new _ _, Owns.nil _ _ _, fun k hk => (by cases hk), List.length_replicate⟩
  rw [← hm, ← hs, ← hn, ← hw2, ← hq]
  obtain ⟨C0, hC0⟩ : ∃ C0, C0 = (cod (.slice none 0 0) (List.replicate 256 0) m s n).toArray := ⟨_, rfl⟩
  rw [← hC0]
  have H2 := Lib.hid h2
  clear h2 hs hm hn hq hw2 HB1 hC0
  go_wp2_with fail
  go_loopw [31] (fun vi wr => ∃ i : Nat, i ≤ 256 ∧ vi = .int .i64 i ∧ Hid (CodAt W wr q 0 (List.replicate i (-1) ++ List.replicate (256 - i) 0) none 0 m s n [])) (fun vi _ => 256 - (intOf vi).toNat)
  case atStart => exact ⟨0, by omega, rfl, H2⟩
  case round =>
    obtain ⟨i, hi, rfl, hI⟩ := hrel
    by_cases hlt : i < 256
    · have hx : (List.replicate i (-1 : Int) ++ List.replicate (256 - i) 0)[i]? = some 0 := by
        rw [List.getElem?_append_right (by simp), List.length_replicate, Nat.sub_self, List.getElem?_replicate, if_pos (by omega)]
      have c0 := hI.out.cell hx
      have f0 := frozen_of_row _ _ (1 + i) _ _ hI.out.blk
      clear hx
      go_wp2_with fail
      go_roundw
      case rel =>
        refine ⟨i + 1, by omega, by go_num, ?_⟩
        have := hI.out.put i (-1) hlt
        have e : (List.replicate i (-1 : Int) ++ List.replicate (256 - i) 0).set i (-1) = List.replicate (i + 1) (-1) ++ List.replicate (256 - (i + 1)) 0 := by
          rw [List.set_append_right _ _ (by simp), List.length_replicate, Nat.sub_self, show 256 - i = (256 - (i + 1)) + 1 by omega, List.replicate_succ, List.set_cons_zero, List.replicate_succ', List.append_assoc]
          rfl
        rw [e] at this
        exact this
      case measure => simp [intOf]; omega
    · have hj : i = 256 := by omega
      have h3 := hI.out
      rw [hj, Nat.sub_self, List.replicate_zero, List.append_nil] at h3
      have H3 := Lib.hid h3
      have z2 : ¬ (i : Int) < 256 := by omega
      clear h3 hI hj
      obtain ⟨j, hj⟩ : ∃ j, j = i := ⟨_, rfl⟩
      rw [← hj] at z2 ⊢
      clear hj hi hlt
      go_wp2_with fail
      obtain ⟨wo, rfl⟩ : ∃ wo : World, wo = wr := ⟨_, rfl⟩
      go_loopw [42] (fun vi wr => ∃ (i : Nat) (O : List Int) (tA : Option Addr) (tc : Nat) (xs : List Value), i ≤ al.length ∧ vi = .int .i64 i ∧ Hid (CodAt W wr q i O tA tc m s n xs ∧ (∀ b, b < 256 → (O[b]? = some (-1) ↔ b ∉ al.take i)) ∧ (al.take i).Nodup)) (fun vi _ => al.length - (intOf vi).toNat)
      case atStart => exact ⟨0, _, none, 0, [], by omega, rfl, H3.out, fun b hb => by rw [List.getElem?_replicate, if_pos hb, List.take_zero]; exact ⟨fun _ h => (by cases h), fun _ => rfl⟩, List.nodup_nil⟩
      case round =>
        obtain ⟨i, O, tA, tc, xs, hi, rfl, hI⟩ := hrel
        by_cases hlt : i < al.length
        · obtain ⟨g, o, rfl⟩ := some_addr H.out.1 (by omega)
          obtain ⟨b, hb⟩ : ∃ b, al[i]? = some b := ⟨_, List.getElem?_eq_getElem hlt⟩
          have hb2 := H.out.2 b (List.mem_of_getElem? hb)
          have cb := Sees.byte (H.out.1.new hI.out.1.below) hb
          obtain ⟨x, hx⟩ : ∃ x, O[b]? = some x := ⟨_, List.getElem?_eq_getElem (by rw [hI.out.1.len]; exact hb2)⟩
          have cx := hI.out.1.cell hx
          have fx := frozen_of_row _ _ (1 + b) _ _ hI.out.1.blk
          have hb2' : (b : Int) < 256 := by omega
          have HX := Lib.hid (And.intro hb hx)
          clear hb hx
          by_cases h1 : x = -1
          · subst h1
            go_upto_region 15 with fail
            obtain ⟨w3, hw3⟩ : ∃ w3, w3 = wr.setCell ⟨q, 1 + b, none⟩ (.int .i64 (i : Int)) := ⟨_, rfl⟩
            rw [← hw3]
            have h3 : CodAt W w3 q i (O.set b (i : Int)) tA tc m s n xs := by rw [hw3]; exact hI.out.1.put b i hb2
            have c0 := h3.cell0
            have hown := (h3.own.alloc (.cells #[.int .u8 (b : Int)] 5)).alloc (.cells #[.slice (some ⟨w3.heap.size, 0, none⟩) 1 1] 24)
            have hbt : Below W.heap.size W ((w3.alloc (.cells #[.int .u8 (b : Int)] 5)).alloc (.cells #[.slice (some ⟨w3.heap.size, 0, none⟩) 1 1] 24)) := (h3.below.alloc h3.below.size _).alloc (by have := h3.below.size; simp; omega) _
            have hsrc : Src Try.prog 1 40 (.slice (some ⟨w3.heap.size + 1, 0, none⟩) 1 1) 1 [.slice (some ⟨w3.heap.size, 0, none⟩) 1 1] ((w3.alloc (.cells #[.int .u8 (b : Int)] 5)).alloc (.cells #[.slice (some ⟨w3.heap.size, 0, none⟩) 1 1] 24)) := by
              refine src_one Try.underlying40 ?_ rfl
              have := heap_alloc_new (w3.alloc (.cells #[.int .u8 (b : Int)] 5)) (.cells #[.slice (some ⟨w3.heap.size, 0, none⟩) 1 1] 24)
              have e : (w3.alloc (.cells #[.int .u8 (b : Int)] 5)).heap.size = w3.heap.size + 1 := by simp
              rw [e] at this
              rw [cell_of_row _ _ 0 _ _ _ this]
              rfl
            have hq3 : q < w3.heap.size := (Array.getElem?_eq_some_iff.1 h3.blk).1
            have H3' := Lib.hid (And.intro h3 (And.intro hown (And.intro hbt (And.intro hsrc hq3))))
            clear h3 hown hbt hsrc hw3 cx fx cb hq3
            go_wp2_with (at_builtin; refine wpList_append rfl (.tmp 64) (.tmp 67) 40 40 rfl W.heap.size 24 _ 1 24 Try.underlying40 infoS _ i xs rfl (by exact H3'.out.2.1) _ 1 [.slice (some ⟨w3.heap.size, 0, none⟩) 1 1] rfl (by exact H3'.out.2.2.2.1) (by unfold maxLen; omega) (by omega) (by exact H3'.out.2.2.1.size) ?_; intro A5 c5 w5 hown5 hg5 hbl5; have hblk5 := (hg5.block q (by have := H3'.out.2.2.2.2; simp; omega) (fun e => H3'.out.1.ne q e.symm rfl)).trans ((Below.heap_alloc _ _ _ (by have := H3'.out.2.2.2.2; simp; omega)).trans ((Below.heap_alloc _ _ _ H3'.out.2.2.2.2).trans H3'.out.1.blk)); have c05 := cell_of_row _ _ 0 _ _ _ hblk5; rw [show (cod (Value.slice tA i tc) (O.set b (i : Int)) m s n).toArray[0]? = some (Value.slice tA i tc) from rfl] at c05; have f05 := frozen_of_row _ _ 0 _ _ hblk5; have H5 := Lib.hid (And.intro hown5 (And.intro hg5 (And.intro hbl5 hblk5))); clear hown5 hg5 hbl5 hblk5)
            go_roundw
            case rel =>
              obtain ⟨h5, g5, b5, k5⟩ := H5.out
              have hne : ∀ k, (Value.slice A5 (i + 1) c5).ownBlock = some k → k ≠ q := fun k hk => by
                rcases b5 with e | e
                · rw [e] at hk; exact H3'.out.1.ne k hk
                · rw [e] at hk; injection hk with hk; have := H3'.out.2.2.2.2; simp at hk; omega
              have hbs : b ∉ al.take i := (hI.out.2.1 b hb2).1 HX.out.2
              obtain ⟨hi', eb⟩ := List.getElem?_eq_some_iff.1 HX.out.1
              have etk : al.take (i + 1) = al.take i ++ [b] := by rw [List.take_succ_eq_append_getElem hi', eb]
              refine ⟨i + 1, O.set b (i : Int), A5, c5, xs ++ [.slice (some ⟨w3.heap.size, 0, none⟩) 1 1], by omega, by go_num, ?_⟩
              refine ⟨?_, ?_, ?_⟩
              · exact ⟨(H3'.out.2.2.1.grown g5 H3'.out.2.2.1.size (fun k e => (H3'.out.1.own.lt k e).1)).setCell H3'.out.1.hq _, H3'.out.1.hq, by rw [set_cells k5]; rfl, h5.setCell hne _, hne, by rw [List.length_set]; exact hI.out.1.len⟩
              · intro b' hb'
                rw [etk, List.mem_append, List.mem_singleton, List.getElem?_set]
                by_cases hbb : b = b'
                · subst hbb
                  rw [if_pos rfl, if_pos (by rw [hI.out.1.len]; exact hb2)]
                  exact ⟨fun h => (by injection h with h; omega), fun h => absurd (.inr rfl) h⟩
                · rw [if_neg hbb, hI.out.2.1 b' hb']
                  exact ⟨fun h1 h2 => by rcases h2 with h2 | h2; exact h1 h2; exact hbb h2.symm, fun h1 h2 => h1 (.inl h2)⟩
              · rw [etk]
                exact List.nodup_append.2 ⟨hI.out.2.2, List.nodup_cons.2 ⟨List.not_mem_nil, List.nodup_nil⟩, fun x hx y hy => by rw [List.mem_singleton.1 hy]; rintro rfl; exact hbs hx⟩
            case measure => simp [intOf]; omega
          · go_wp2_with fail
            go_ret2
            have hin : b ∈ al.take i := by
              refine Classical.byContradiction fun hn => h1 ?_
              have := (hI.out.2.1 b hb2).2 hn
              rw [HX.out.2] at this
              exact Option.some.inj this
            have hE : E = 15 := by
              rw [HE.out]
              unfold bpeErr0
              rw [if_neg (by omega), if_neg]
              intro hnd
              obtain ⟨hi', eb⟩ := List.getElem?_eq_some_iff.1 HX.out.1
              rw [← List.take_append_drop i al, List.drop_eq_getElem_cons hi', eb] at hnd
              exact (List.nodup_append.1 hnd).2.2 b hin b (List.mem_cons_self ..) rfl
            rw [hE]
            exact ⟨.pointer none, rfl, hI.out.1.below, fun h => (by cases h)⟩
        · obtain rfl : i = al.length := by omega
          have hnd := hI.out.2.2
          rw [List.take_length] at hnd
          have hE : E = 0 := by
            rw [HE.out]
            unfold bpeErr0
            rw [if_neg (by omega), if_pos hnd]
          have HE0 := Lib.hid hE
          clear hE hnd
          go_wp2_with fail
          go_loopw [74] (fun vi wr' => vi = .int .i64 0 ∧ wr' = wr) (fun vi _ => 0)
          case atStart => exact ⟨rfl, rfl⟩
          case round =>
            obtain ⟨rfl, rfl⟩ := hrel
            go_wp2_with fail
            go_ret2
            rw [HE0.out]
            exact ⟨_, rfl, hI.out.1.below, fun _ => ⟨q, tA, tc, rfl, hI.out.1.hq, hI.out.1.cell0⟩⟩
end Go.Proofs.Ytfhaebaegkpkhaa.Bpe
