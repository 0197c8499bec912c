/- The reference's steps: cupelref12.some. · The reference's steps: cupelref12.Plan.layer. Printed by genrf.py. · The reference's steps: cupelref12.Plan.Places, Steps. Printed by genrfc.py. · Steps compared; slices.Index, Contains of steps; steps.Plan.has. · A plan's steps: what they read, and write; keys. Printed by genptl.py. -/
import Derived.Test.YtfhaebaegkpkhaaPlA
import Derived.Test.YtfhaebaegkpkhaaPlI
import Derived.Test.YtfhaebaegkpkhaaQFork
import Derived.Test.YtfhaebaegkpkhaaTRow
set_option linter.unusedVariables false
set_option linter.unusedSimpArgs false
namespace Go.Proofs.Ytfhaebaegkpkhaa.Rf12
open Go.RowKit OwnS Byt Cfg Stp Pln
attribute [local go_sem ↓] Kit.execOp_call_slot
attribute [local go_sem] Kit.callSlot_func
theorem infoR : ElemInfo Try.prog 88 (.agg #[.int .i64 0, .int .i64 0, .int .i64 0, .int .i64 0, .int .i64 0]) 5 40 := elemInfo (by kernel_rfl) rfl rfl
theorem src_rstep {w : World} {g : Nat} (s : Stp.Stp) (h : w.rangeAt g 0 s.cells) : Src Try.prog 5 86 (.slice (some ⟨g, 0, none⟩) 1 1) 1 s.cells w :=
  Src.ofSlice w Try.underlying86 ⟨g, 0, none⟩ 1 1 s.cells rfl (fun j u hj => by rw [add_lit]; exact h j u hj) (cells_one s)
/-- More steps, behind those that came in: what was one's own grows, all else is as it was. -/
def MorePost (W : World) (base : Nat) (v : Value) (l : List Stp.Stp) (e : Ending) (w' : World) : Prop :=
  ∃ A c, e = .returned (.slice A l.length c) ∧ Owns w' base 5 (.slice A l.length c) l.length (flatS l) ∧ Keeps W w' (fun b => v.ownBlock = some b) ∧ (∀ b, (Value.slice A l.length c).ownBlock = some b → v.ownBlock = some b ∨ W.heap.size ≤ b)
theorem own_grown {W wr w5 : World} {v0 v v5 : Value} {b0 : Nat} (hk : Keeps W wr (fun b => v0.ownBlock = some b)) (hv : ∀ b, v.ownBlock = some b → v0.ownBlock = some b ∨ W.heap.size ≤ b) (hg : wr.grownBy w5 v.ownBlock) : Keeps W w5 (fun b => v0.ownBlock = some b) :=
  hk.trans (Keeps.of_grown (S := fun b => v.ownBlock = some b) hg (fun b hb _ => hb)) hv
set_option maxRecDepth 100000 in
set_option maxHeartbeats 4000000 in
theorem some_any (W : World) (base : Nat) (hbase : base ≤ W.heap.size) (cur : List Stp.Stp) (A0 : Option Addr) (c0 : Nat) (ho : Owns W base 5 (.slice A0 cur.length c0) cur.length (flatS cur)) (s : Stp.Stp) (kind : Int) (n : Nat) (hn : n ≤ 1000) (hcur : cur.length ≤ 1000000) :
    Calls Try.prog 83 #[.slice A0 cur.length c0, s.val, .int .i64 kind, .int .i64 (n : Int)] W (MorePost W base (.slice A0 cur.length c0) (cur ++ rowsL s kind n)) := by
  obtain ⟨k0, pos, layer, head, row⟩ := s
  unfold Stp.Stp.val
  obtain ⟨N0, hN0⟩ : ∃ N0, N0 = cur.length := ⟨_, rfl⟩
  have hlen : ∀ i, (cur ++ rowsL ⟨k0, pos, layer, head, row⟩ kind i).length = N0 + i := fun i => by rw [List.length_append, rowsL_length, hN0]
  rw [← hN0] at ho hcur ⊢
  obtain ⟨v0, hv0⟩ : ∃ v0, v0 = Value.slice A0 N0 c0 := ⟨_, rfl⟩
  have hlt0 : ∀ b, v0.ownBlock = some b → b < W.heap.size := fun b hb => by rw [hv0] at hb; exact (ho.lt b hb).2
  have HL := Lib.hid (And.intro hlen (And.intro hlt0 hv0))
  have HO := Lib.hid ho
  clear hlen hlt0 hN0 ho
  unfold MorePost
  go_enter Try.func83, Try.ntmps83
  go_wp2_with fail
  go_loopw [0, 9] (fun v w9 wr => ∃ (i : Nat) (A : Option Addr) (c : Nat), i ≤ n ∧ v = .slice A (N0 + i) c ∧ w9 = .int .i64 (i : Int) ∧ Hid ((∃ k r : Int, wr.heap[W.heap.size]? = some (.cells [.int .i64 k, .int .i64 pos, .int .i64 layer, .int .i64 head, .int .i64 r].toArray 88 (0, 0))) ∧ Owns wr base 5 (.slice A (N0 + i) c) (N0 + i) (flatS (cur ++ rowsL ⟨k0, pos, layer, head, row⟩ kind i)) ∧ Keeps W wr (fun b => v0.ownBlock = some b) ∧ (∀ b, (Value.slice A (N0 + i) c).ownBlock = some b → v0.ownBlock = some b ∨ W.heap.size < b))) (fun _ w9 _ => n - (intOf w9).toNat)
  case atStart =>
    refine ⟨0, A0, c0, Nat.zero_le _, rfl, rfl, ⟨k0, row, heap_alloc_new W _⟩, ?_, (Keeps.refl _ _).alloc _, fun b hb => .inl (by rw [HL.out.2.2]; exact hb)⟩
    have : rowsL ⟨k0, pos, layer, head, row⟩ kind 0 = [] := rfl
    rw [this, List.append_nil]
    exact HO.out.alloc _
  case round =>
    obtain ⟨i, A, c, hi, rfl, rfl, hI⟩ := hrel
    obtain ⟨⟨k, r, hst⟩, how, hke, hbl⟩ := hI.out
    have d0 : wr.cell? ⟨W.heap.size, 0, none⟩ = some (.int .i64 k) := by rw [cell_of_row _ _ 0 _ _ _ hst]; rfl
    have d1 : wr.cell? ⟨W.heap.size, 1, none⟩ = some (.int .i64 pos) := by rw [cell_of_row _ _ 1 _ _ _ hst]; rfl
    have d2 : wr.cell? ⟨W.heap.size, 2, none⟩ = some (.int .i64 layer) := by rw [cell_of_row _ _ 2 _ _ _ hst]; rfl
    have d3 : wr.cell? ⟨W.heap.size, 3, none⟩ = some (.int .i64 head) := by rw [cell_of_row _ _ 3 _ _ _ hst]; rfl
    have d4 : wr.cell? ⟨W.heap.size, 4, none⟩ = some (.int .i64 r) := by rw [cell_of_row _ _ 4 _ _ _ hst]; rfl
    have f0 := frozen_of_row wr W.heap.size 0 _ _ hst
    have f4 := frozen_of_row wr W.heap.size 4 _ _ hst
    have hlt := (Array.getElem?_eq_some_iff.1 hst).1
    by_cases hin : i < n
    · have i1 : (i : Int) < (n : Int) := by omega
      have i2 : (i : Int) ≤ 1000 := by omega
      have HI := Lib.hid (And.intro hst (And.intro how (And.intro hke (And.intro hbl hlt))))
      clear hst how hke hbl hlt hI
      go_upto_region 6 with fail
      obtain ⟨w2, hw2⟩ : ∃ w2, w2 = (wr.setCell ⟨W.heap.size, 0, none⟩ (.int .i64 kind)).setCell ⟨W.heap.size, 4, none⟩ (.int .i64 (i : Int)) := ⟨_, rfl⟩
      rw [← hw2]
      have hst2 : w2.heap[W.heap.size]? = some (.cells (Stp.Stp.cells ⟨kind, pos, layer, head, i⟩).toArray 88 (0, 0)) := by
        rw [hw2]
        exact set_cells (set_cells HI.out.1 0 (.int .i64 kind)) 4 (.int .i64 (i : Int))
      have hne : ∀ b, (Value.slice A (N0 + i) c).ownBlock = some b → b ≠ W.heap.size := fun b hb e => by
        rcases HI.out.2.2.2.1 b hb with h | h
        · have := HL.out.2.1 b h; omega
        · omega
      have how2 : Owns w2 base 5 (.slice A (N0 + i) c) (N0 + i) (flatS (cur ++ rowsL ⟨k0, pos, layer, head, row⟩ kind i)) := by
        rw [hw2]
        exact (HI.out.2.1.setCell hne _).setCell hne _
      have hke2 : Keeps W w2 (fun b => v0.ownBlock = some b) := by
        rw [hw2]
        exact (HI.out.2.2.1.setCell (a := ⟨W.heap.size, 0, none⟩) (.inr (Nat.le_refl _)) _).setCell (a := ⟨W.heap.size, 4, none⟩) (.inr (Nat.le_refl _)) _
      have e0 : w2.cell? ⟨W.heap.size, 0, none⟩ = some (.int .i64 kind) := by rw [cell_of_row _ _ 0 _ _ _ hst2]; rfl
      have e1 : w2.cell? ⟨W.heap.size, 1, none⟩ = some (.int .i64 pos) := by rw [cell_of_row _ _ 1 _ _ _ hst2]; rfl
      have e2 : w2.cell? ⟨W.heap.size, 2, none⟩ = some (.int .i64 layer) := by rw [cell_of_row _ _ 2 _ _ _ hst2]; rfl
      have e3 : w2.cell? ⟨W.heap.size, 3, none⟩ = some (.int .i64 head) := by rw [cell_of_row _ _ 3 _ _ _ hst2]; rfl
      have e4 : w2.cell? ⟨W.heap.size, 4, none⟩ = some (.int .i64 (i : Int)) := by rw [cell_of_row _ _ 4 _ _ _ hst2]; rfl
      have HA := Lib.hid (And.intro (how2.alloc (.cells #[.int .i64 kind, .int .i64 pos, .int .i64 layer, .int .i64 head, .int .i64 (i : Int)] 88)) (And.intro (src_rstep (w := w2.alloc (.cells #[.int .i64 kind, .int .i64 pos, .int .i64 layer, .int .i64 head, .int .i64 (i : Int)] 88)) (g := w2.heap.size) ⟨kind, pos, layer, head, i⟩ (rangeAt_whole (cs := Stp.Stp.cells ⟨kind, pos, layer, head, i⟩) (heap_alloc_new w2 _))) (And.intro hst2 (And.intro hke2 (Array.getElem?_eq_some_iff.1 hst2).1))))
      have hb9 : base ≤ w2.heap.size := by have := (Array.getElem?_eq_some_iff.1 hst2).1; omega
      clear hst2 hne how2 hke2 hw2 d0 d1 d2 d3 d4 f0 f4
      go_wp2_with (at_builtin; refine wpList_append rfl (.tmp 19) (.tmp 21) 86 86 rfl base 88 _ 5 40 Try.underlying86 infoR _ (N0 + i) (flatS (cur ++ rowsL ⟨k0, pos, layer, head, row⟩ kind i)) rfl (by exact HA.out.1) _ 1 (Stp.Stp.cells ⟨kind, pos, layer, head, i⟩) rfl (by exact HA.out.2.1) (by unfold maxLen; omega) (by omega) (by rw [World.size_alloc]; omega) ?_; intro A5 c5 w5 hown hg hbl; have H5 := Lib.hid (And.intro hown (And.intro hg hbl)); clear hown hg hbl e0 e1 e2 e3 e4)
      go_roundw
      case rel =>
        have hbk := HI.out.2.2.2.1
        refine ⟨i + 1, A5, c5, by omega, rfl, by go_num, ?_⟩
        refine Lib.hid ⟨⟨kind, i, ?_⟩, ?_, ?_, ?_⟩
        · refine (H5.out.2.1.block W.heap.size (by rw [World.size_alloc]; have := HA.out.2.2.2.2; omega) (fun e => ?_)).trans ((Below.heap_alloc _ _ _ HA.out.2.2.2.2).trans HA.out.2.2.1)
          rcases hbk _ e.symm with h | h
          · have := HL.out.2.1 _ h; omega
          · omega
        · have h7 := H5.out.1
          rw [rowsL_succ, ← List.append_assoc, flatS_append]
          rw [← Nat.add_assoc]
          simpa [flatS] using h7
        · refine (HA.out.2.2.2.1.alloc _).trans (Keeps.of_grown (S := fun b => (Value.slice A (N0 + i) c).ownBlock = some b) H5.out.2.1 (fun b hb _ => hb)) (fun b hb => ?_)
          rcases hbk b hb with h | h
          · exact .inl h
          · exact .inr (by omega)
        · intro b hb
          have hb : (Value.slice A5 (N0 + i + 1) c5).ownBlock = some b := hb
          rcases H5.out.2.2 with h | h
          · exact hbk b (h.symm.trans hb)
          · have : b = (w2.alloc (.cells #[.int .i64 kind, .int .i64 pos, .int .i64 layer, .int .i64 head, .int .i64 (i : Int)] 88)).heap.size := Option.some.inj (hb.symm.trans h)
            rw [this, World.size_alloc]
            have := HA.out.2.2.2.2
            exact .inr (by omega)
      case measure => simp [intOf]; omega
    · obtain rfl : n = i := by omega
      have HI := Lib.hid (And.intro how (And.intro hke hbl))
      clear how hke hbl hst hlt hI d0 d1 d2 d3 d4 f0 f4
      go_wp2_with fail
      go_ret
      rw [HL.out.1]
      refine ⟨A, c, rfl, HI.out.1, ?_, fun b hb => ?_⟩
      · have := HI.out.2.1
        rwa [HL.out.2.2] at this
      · rcases HI.out.2.2 b hb with h | h
        · rw [HL.out.2.2] at h; exact .inl h
        · exact .inr (by omega)
end Go.Proofs.Ytfhaebaegkpkhaa.Rf12

set_option linter.unusedVariables false
set_option linter.unusedSimpArgs false
namespace Go.Proofs.Ytfhaebaegkpkhaa.Rf12
open Go.RowKit OwnS Byt Cfg Stp Pln
attribute [local go_sem ↓] Kit.execOp_call_slot
attribute [local go_sem] Kit.callSlot_func
/-- A plan's cells, as the reference has them. -/
def refC (p : Pln) : List Value := [.int .i64 (p.dim : Int), .int .i64 (p.heads : Int), .int .i64 (p.layers : Int), .int .i64 (p.hidden : Int), .int .i64 (p.vocab : Int), .int .i64 (p.prompt : Int), .int .i64 (p.limit : Int)]
theorem ref_size : (Try.prog.info? 84).map (·.size) = some 7 := by kernel_rfl
theorem rstep_size : (Try.prog.info? 88).map (·.size) = some 5 := by kernel_rfl
/-- While a layer's steps are laid: the plan, the step, what is one's own. -/
structure LSt (W w : World) (base P SB : Nat) (v0 : Value) (A : Option Addr) (N c : Nat) (cur : List Stp.Stp) (p : Pln) (s : Stp.Stp) : Prop where
  hN : N = cur.length
  base_le : base ≤ W.heap.size
  pl : w.heap[P]? = some (.cells (refC p).toArray 84 (0, 0))
  st : w.heap[SB]? = some (.cells s.cells.toArray 88 (0, 0))
  hP : W.heap.size ≤ P ∧ W.heap.size ≤ SB ∧ P ≠ SB
  own : Owns w base 5 (.slice A N c) N (flatS cur)
  keep : Keeps W w (fun b => v0.ownBlock = some b)
  lt0 : ∀ b, v0.ownBlock = some b → b < W.heap.size
  blk : ∀ b, (Value.slice A N c).ownBlock = some b → v0.ownBlock = some b ∨ (W.heap.size ≤ b ∧ b ≠ P ∧ b ≠ SB)
section
variable {W w : World} {base P SB : Nat} {v0 : Value} {A : Option Addr} {N c : Nat} {cur : List Stp.Stp} {p : Pln} {s : Stp.Stp}
theorem LSt.cells (x : LSt W w base P SB v0 A N c cur p s) : w.cell? ⟨P, 0, none⟩ = some (.int .i64 (p.dim : Int)) ∧ w.cell? ⟨P, 1, none⟩ = some (.int .i64 (p.heads : Int)) ∧ w.cell? ⟨P, 2, none⟩ = some (.int .i64 (p.layers : Int)) ∧ w.cell? ⟨P, 3, none⟩ = some (.int .i64 (p.hidden : Int)) ∧ w.cell? ⟨P, 4, none⟩ = some (.int .i64 (p.vocab : Int)) ∧ w.cell? ⟨P, 5, none⟩ = some (.int .i64 (p.prompt : Int)) ∧ w.cell? ⟨P, 6, none⟩ = some (.int .i64 (p.limit : Int)) := by
  refine ⟨?_, ?_, ?_, ?_, ?_, ?_, ?_⟩ <;> (rw [cell_of_row _ _ _ _ _ _ x.pl]; rfl)
theorem LSt.ne (x : LSt W w base P SB v0 A N c cur p s) {q : Nat} (h : q = P ∨ q = SB) : ∀ b, (Value.slice A N c).ownBlock = some b → b ≠ q := fun b hb e => by
  have h2 := x.hP
  rcases x.blk b hb with h1 | h1
  · have := x.lt0 b h1; omega
  · omega
/-- The step's head turned. -/
theorem LSt.head (x : LSt W w base P SB v0 A N c cur p s) (h : Int) : LSt W (w.setCell ⟨SB, 3, none⟩ (.int .i64 h)) base P SB v0 A N c cur p { s with head := h } :=
  ⟨x.hN, x.base_le, (Below.heap_setCell _ _ _ _ (by simpa using x.hP.2.2)).trans x.pl, set_cells x.st 3 _, x.hP, x.own.setCell (a := ⟨SB, 3, none⟩) (x.ne (.inr rfl)) _, x.keep.setCell (a := ⟨SB, 3, none⟩) (.inr x.hP.2.1) _, x.lt0, x.blk⟩
/-- After a call that lays more steps. -/
theorem LSt.more (x : LSt W w base P SB v0 A N c cur p s) {w' : World} {A' : Option Addr} {c' : Nat} {L : List Stp.Stp} (h1 : Owns w' base 5 (.slice A' L.length c') L.length (flatS L)) (h2 : Keeps w w' (fun b => (Value.slice A N c).ownBlock = some b)) (h3 : ∀ b, (Value.slice A' L.length c').ownBlock = some b → (Value.slice A N c).ownBlock = some b ∨ w.heap.size ≤ b) : LSt W w' base P SB v0 A' L.length c' L p s := by
  have hPl := (Array.getElem?_eq_some_iff.1 x.pl).1
  have hSl := (Array.getElem?_eq_some_iff.1 x.st).1
  have hP := x.hP
  refine ⟨rfl, x.base_le, (h2.block P hPl (fun e => x.ne (.inl rfl) _ e rfl)).trans x.pl, (h2.block SB hSl (fun e => x.ne (.inr rfl) _ e rfl)).trans x.st, x.hP, h1, x.keep.trans h2 (fun b hb => ?_), x.lt0, fun b hb => ?_⟩
  · rcases x.blk b hb with h | h
    · exact .inl h
    · exact .inr (by omega)
  · rcases h3 b hb with h | h
    · exact x.blk b h
    · exact .inr (by omega)
theorem some_step (x : LSt W w base P SB v0 A N c cur p s) (kind : Int) (n : Nat) (hn : n ≤ 1000) (hcur : N ≤ 1000000) :
    Calls Try.prog 83 #[.slice A N c, .agg s.cells.toArray, .int .i64 kind, .int .i64 (n : Int)] w fun e w' => ∃ A' N' c', e = .returned (.slice A' N' c') ∧ N' = N + n ∧ LSt W w' base P SB v0 A' N' c' (cur ++ rowsL s kind n) p s := by
  have hb := x.base_le
  have hs := x.keep.size
  have ho := x.own
  have hN := x.hN
  subst hN
  refine (some_any w base (by omega) cur A c ho s kind n hn hcur).mono ?_
  rintro e w' ⟨A', c', rfl, h1, h2, h3⟩
  exact ⟨A', _, c', rfl, by rw [List.length_append, rowsL_length], x.more h1 h2 h3⟩
end
set_option maxRecDepth 100000 in
set_option maxHeartbeats 8000000 in
theorem layer_any (W : World) (base : Nat) (hbase : base ≤ W.heap.size) (cur : List Stp.Stp) (A0 : Option Addr) (c0 : Nat) (ho : Owns W base 5 (.slice A0 cur.length c0) cur.length (flatS cur)) (p : Pln) (at_ layer : Nat) (hcur : cur.length ≤ 800000) (hd : p.dim ≤ 1000) (hh : p.heads ≤ 100) (hx : p.hidden ≤ 1000) (hat : at_ ≤ 900) :
    Calls Try.prog 84 #[.agg (refC p).toArray, .slice A0 cur.length c0, .int .i64 (at_ : Int), .int .i64 (layer : Int)] W (MorePost W base (.slice A0 cur.length c0) (cur ++ layerL p at_ layer)) := by
  obtain ⟨N0, hN0⟩ : ∃ N0, N0 = cur.length := ⟨_, rfl⟩
  rw [← hN0] at ho hcur ⊢
  obtain ⟨P, hP⟩ : ∃ P, P = W.heap.size := ⟨_, rfl⟩
  obtain ⟨w1, hw1⟩ : ∃ w1, w1 = (W.alloc (.cells (refC p).toArray 84)).alloc (.cells #[.int .i64 0, .int .i64 (at_ : Int), .int .i64 (layer : Int), .int .i64 0, .int .i64 0] 88) := ⟨_, rfl⟩
  have hx1 : LSt W w1 base P (P + 1) (.slice A0 N0 c0) A0 N0 c0 cur p ⟨0, (at_ : Int), (layer : Int), 0, 0⟩ := by
    refine ⟨hN0, hbase, ?_, ?_, ⟨by omega, by omega, by omega⟩, ?_, ?_, fun b hb => (ho.lt b hb).2, fun b hb => .inl hb⟩
    · rw [hw1, hP, Below.heap_alloc _ _ _ (by simp)]; exact heap_alloc_new W _
    · rw [hw1, hP]
      have := heap_alloc_new (W.alloc (.cells (refC p).toArray 84)) (.cells #[.int .i64 0, .int .i64 (at_ : Int), .int .i64 (layer : Int), .int .i64 0, .int .i64 0] 88)
      simpa [Stp.Stp.cells] using this
    · rw [hw1]; exact (ho.alloc _).alloc _
    · rw [hw1]; exact ((Keeps.refl _ _).alloc _).alloc _
  obtain ⟨p0, p1, p2, p3, p4, p5, p6⟩ := hx1.cells
  have HW := Lib.hid hw1
  have HP := Lib.hid (And.intro hP hN0)
  have H1 := Lib.hid hx1
  clear hw1 hx1 ho hP hN0
  unfold MorePost
  go_enter Try.func84, Try.ntmps84
  go_upto_region 2 with fail
  rw [← HW.out, ← HP.out.1]
  go_upto_region 3 with (first | (refine wpList_load_mid rfl 88 (.tmp 9) rfl (P + 1) 0 rfl (Stp.Stp.cells ⟨0, (at_ : Int), (layer : Int), 0, 0⟩) _ (rangeAt_whole H1.out.st) Try.underlying88 rfl rstep_size ?_; simp only [Act.put, List.setIfInBounds_toArray, List.set_cons_succ, List.set_cons_zero]) | (go_at_call 83; (with_reducible refine Calls.mono (some_step H1.out 2 1 (by first | decide | omega) (by omega)) ?_); rintro e w2 ⟨A2, N2, c2, rfl, hN2, hx2⟩; have hB2 : N2 ≤ 800000 + 1000 * 2 := (by omega); clear hN2; obtain ⟨p0, p1, p2, p3, p4, p5, p6⟩ := hx2.cells; have H2 := Lib.hid hx2; clear hx2))
  go_upto_region 4 with (first | (refine wpList_load_mid rfl 88 (.tmp 9) rfl (P + 1) 0 rfl (Stp.Stp.cells ⟨0, (at_ : Int), (layer : Int), 0, 0⟩) _ (rangeAt_whole H2.out.st) Try.underlying88 rfl rstep_size ?_; simp only [Act.put, List.setIfInBounds_toArray, List.set_cons_succ, List.set_cons_zero]) | (go_at_call 83; (with_reducible refine Calls.mono (some_step H2.out 3 p.dim (by first | decide | omega) (by omega)) ?_); rintro e w3 ⟨A3, N3, c3, rfl, hN3, hx3⟩; have hB3 : N3 ≤ 800000 + 1000 * 3 := (by omega); clear hN3; obtain ⟨p0, p1, p2, p3, p4, p5, p6⟩ := hx3.cells; have H3 := Lib.hid hx3; clear hx3))
  go_upto_region 5 with (first | (refine wpList_load_mid rfl 88 (.tmp 9) rfl (P + 1) 0 rfl (Stp.Stp.cells ⟨0, (at_ : Int), (layer : Int), 0, 0⟩) _ (rangeAt_whole H3.out.st) Try.underlying88 rfl rstep_size ?_; simp only [Act.put, List.setIfInBounds_toArray, List.set_cons_succ, List.set_cons_zero]) | (go_at_call 83; (with_reducible refine Calls.mono (some_step H3.out 4 p.dim (by first | decide | omega) (by omega)) ?_); rintro e w4 ⟨A4, N4, c4, rfl, hN4, hx4⟩; have hB4 : N4 ≤ 800000 + 1000 * 4 := (by omega); clear hN4; obtain ⟨p0, p1, p2, p3, p4, p5, p6⟩ := hx4.cells; have H4 := Lib.hid hx4; clear hx4))
  go_upto_region 6 with (first | (refine wpList_load_mid rfl 88 (.tmp 9) rfl (P + 1) 0 rfl (Stp.Stp.cells ⟨0, (at_ : Int), (layer : Int), 0, 0⟩) _ (rangeAt_whole H4.out.st) Try.underlying88 rfl rstep_size ?_; simp only [Act.put, List.setIfInBounds_toArray, List.set_cons_succ, List.set_cons_zero]) | (go_at_call 83; (with_reducible refine Calls.mono (some_step H4.out 5 p.dim (by first | decide | omega) (by omega)) ?_); rintro e w5 ⟨A5, N5, c5, rfl, hN5, hx5⟩; have hB5 : N5 ≤ 800000 + 1000 * 5 := (by omega); clear hN5; obtain ⟨p0, p1, p2, p3, p4, p5, p6⟩ := hx5.cells; have H5 := Lib.hid hx5; clear hx5))
  go_upto_region 7 with (first | (refine wpList_load_mid rfl 88 (.tmp 9) rfl (P + 1) 0 rfl (Stp.Stp.cells ⟨0, (at_ : Int), (layer : Int), 0, 0⟩) _ (rangeAt_whole H5.out.st) Try.underlying88 rfl rstep_size ?_; simp only [Act.put, List.setIfInBounds_toArray, List.set_cons_succ, List.set_cons_zero]) | (go_at_call 83; (with_reducible refine Calls.mono (some_step H5.out 6 1 (by first | decide | omega) (by omega)) ?_); rintro e w6 ⟨A6, N6, c6, rfl, hN6, hx6⟩; have hB6 : N6 ≤ 800000 + 1000 * 6 := (by omega); clear hN6; obtain ⟨p0, p1, p2, p3, p4, p5, p6⟩ := hx6.cells; have H6 := Lib.hid hx6; clear hx6))
  go_upto_region 8 with (first | (refine wpList_load_mid rfl 88 (.tmp 9) rfl (P + 1) 0 rfl (Stp.Stp.cells ⟨0, (at_ : Int), (layer : Int), 0, 0⟩) _ (rangeAt_whole H6.out.st) Try.underlying88 rfl rstep_size ?_; simp only [Act.put, List.setIfInBounds_toArray, List.set_cons_succ, List.set_cons_zero]) | (go_at_call 83; (with_reducible refine Calls.mono (some_step H6.out 7 1 (by first | decide | omega) (by omega)) ?_); rintro e w7 ⟨A7, N7, c7, rfl, hN7, hx7⟩; have hB7 : N7 ≤ 800000 + 1000 * 7 := (by omega); clear hN7; obtain ⟨p0, p1, p2, p3, p4, p5, p6⟩ := hx7.cells; have H7 := Lib.hid hx7; clear hx7))
  go_upto_region 10 with (first | (refine wpList_load_mid rfl 88 (.tmp 9) rfl (P + 1) 0 rfl (Stp.Stp.cells ⟨0, (at_ : Int), (layer : Int), 0, 0⟩) _ (rangeAt_whole H7.out.st) Try.underlying88 rfl rstep_size ?_; simp only [Act.put, List.setIfInBounds_toArray, List.set_cons_succ, List.set_cons_zero]) | (go_at_call 83; (with_reducible refine Calls.mono (some_step H7.out 8 1 (by first | decide | omega) (by omega)) ?_); rintro e w8 ⟨A8, N8, c8, rfl, hN8, hx8⟩; have hB8 : N8 ≤ 800000 + 1000 * 8 := (by omega); clear hN8; obtain ⟨p0, p1, p2, p3, p4, p5, p6⟩ := hx8.cells; have H8 := Lib.hid hx8; clear hx8))
  obtain ⟨L8, hL8⟩ : ∃ L8, L8 = (((((((cur ++ rowsL (⟨0, (at_ : Int), (layer : Int), 0, 0⟩ : Stp.Stp) 2 1) ++ rowsL (⟨0, (at_ : Int), (layer : Int), 0, 0⟩ : Stp.Stp) 3 p.dim) ++ rowsL (⟨0, (at_ : Int), (layer : Int), 0, 0⟩ : Stp.Stp) 4 p.dim) ++ rowsL (⟨0, (at_ : Int), (layer : Int), 0, 0⟩ : Stp.Stp) 5 p.dim) ++ rowsL (⟨0, (at_ : Int), (layer : Int), 0, 0⟩ : Stp.Stp) 6 1) ++ rowsL (⟨0, (at_ : Int), (layer : Int), 0, 0⟩ : Stp.Stp) 7 1) ++ rowsL (⟨0, (at_ : Int), (layer : Int), 0, 0⟩ : Stp.Stp) 8 1) := ⟨_, rfl⟩
  rw [← hL8] at H8
  have HL8 := Lib.hid hL8
  clear hL8 p0 p1 p2 p3 p4 p5 p6 H1 H2 H3 H4 H5 H6 H7
  obtain ⟨m, hm⟩ : ∃ m : Nat, m = at_ + 1 := ⟨_, rfl⟩
  have hmi : (at_ : Int) + 1 = (m : Int) := by omega
  have hm9 : m ≤ 1000 := by omega
  have HM := Lib.hid (And.intro hm hmi)
  clear hm hmi
  go_loopw [1, 10] (fun v1 v10 wr => ∃ (h : Nat) (A : Option Addr) (N c : Nat), h ≤ p.heads ∧ v1 = .slice A N c ∧ v10 = .int .i64 (h : Int) ∧ N ≤ 820000 + 1100 * h ∧ Hid (∃ hd : Int, LSt W wr base P (P + 1) (.slice A0 N0 c0) A N c (L8 ++ headsL (⟨0, (at_ : Int), (layer : Int), 0, 0⟩ : Stp.Stp) h at_) p ⟨0, (at_ : Int), (layer : Int), hd, 0⟩)) (fun _ v10 _ => p.heads - (intOf v10).toNat)
  case atStart =>
    refine ⟨0, A8, N8, c8, Nat.zero_le _, rfl, rfl, by omega, ⟨0, ?_⟩⟩
    rw [show headsL (⟨0, (at_ : Int), (layer : Int), 0, 0⟩ : Stp.Stp) 0 at_ = [] from rfl, List.append_nil]
    exact H8.out
  case round =>
    obtain ⟨h, A, N, c, hle, rfl, rfl, hNb, hI⟩ := hrel
    obtain ⟨hd', hx9⟩ := hI.out
    obtain ⟨p0, p1, p2, p3, p4, p5, p6⟩ := hx9.cells
    have HX := Lib.hid hx9
    clear hI hx9
    by_cases hlt : h < p.heads
    · have i1 : (h : Int) < (p.heads : Int) := by omega
      have d3 : wr.cell? ⟨P + 1, 3, none⟩ = some (.int .i64 hd') := by rw [cell_of_row _ _ 3 _ _ _ HX.out.st]; rfl
      have f3 := frozen_of_row wr (P + 1) 3 _ _ HX.out.st
      go_upto_region 13 with fail
      obtain ⟨w9, hw9⟩ : ∃ w9, w9 = wr.setCell ⟨P + 1, 3, none⟩ (.int .i64 (h : Int)) := ⟨_, rfl⟩
      rw [← hw9]
      have hx9 := HX.out.head (h : Int)
      rw [← hw9] at hx9
      have H9 := Lib.hid hx9
      clear hw9 hx9 p0 p1 p2 p3 p4 p5 p6 d3 f3
      obtain ⟨N9, hN9⟩ : ∃ N9, N9 = N := ⟨_, rfl⟩
      go_upto_region 14 with (first | (refine wpList_load_mid rfl 88 (.tmp 9) rfl (P + 1) 0 rfl (Stp.Stp.cells ⟨0, (at_ : Int), (layer : Int), (h : Int), 0⟩) _ (rangeAt_whole H9.out.st) Try.underlying88 rfl rstep_size ?_; simp only [Act.put, List.setIfInBounds_toArray, List.set_cons_succ, List.set_cons_zero]) | (go_at_call 83; (rw [HM.out.2]); (with_reducible refine Calls.mono (some_step H9.out 9 m (by first | decide | omega) (by omega)) ?_); rintro e w10 ⟨A10, N10, c10, rfl, hN10, hx10⟩; have hB10 : N10 ≤ 820000 + 1100 * h + 901 := (by have := HM.out.1; omega); clear hN10; obtain ⟨p0, p1, p2, p3, p4, p5, p6⟩ := hx10.cells; have H10 := Lib.hid hx10; clear hx10))
      clear p0 p1 p2 p3 p4 p5 p6
      go_upto_region 15 with (first | (refine wpList_load_mid rfl 88 (.tmp 9) rfl (P + 1) 0 rfl (Stp.Stp.cells ⟨0, (at_ : Int), (layer : Int), (h : Int), 0⟩) _ (rangeAt_whole H10.out.st) Try.underlying88 rfl rstep_size ?_; simp only [Act.put, List.setIfInBounds_toArray, List.set_cons_succ, List.set_cons_zero]) | (go_at_call 83; (with_reducible refine Calls.mono (some_step H10.out 10 1 (by first | decide | omega) (by omega)) ?_); rintro e w11 ⟨A11, N11, c11, rfl, hN11, hx11⟩; have hB11 : N11 ≤ 820000 + 1100 * h + 902 := (by have := HM.out.1; omega); clear hN11; obtain ⟨p0, p1, p2, p3, p4, p5, p6⟩ := hx11.cells; have H11 := Lib.hid hx11; clear hx11))
      clear p0 p1 p2 p3 p4 p5 p6
      go_wp2_with (first | (refine wpList_load_mid rfl 88 (.tmp 9) rfl (P + 1) 0 rfl (Stp.Stp.cells ⟨0, (at_ : Int), (layer : Int), (h : Int), 0⟩) _ (rangeAt_whole H11.out.st) Try.underlying88 rfl rstep_size ?_; simp only [Act.put, List.setIfInBounds_toArray, List.set_cons_succ, List.set_cons_zero]) | (go_at_call 83; (with_reducible refine Calls.mono (some_step H11.out 11 1 (by first | decide | omega) (by omega)) ?_); rintro e w12 ⟨A12, N12, c12, rfl, hN12, hx12⟩; have hB12 : N12 ≤ 820000 + 1100 * h + 903 := (by have := HM.out.1; omega); clear hN12; obtain ⟨p0, p1, p2, p3, p4, p5, p6⟩ := hx12.cells; have H12 := Lib.hid hx12; clear hx12))
      go_roundw
      case rel =>
        refine ⟨h + 1, A12, N12, c12, by omega, rfl, by go_num, by omega, ⟨(h : Int), ?_⟩⟩
        have h12 := H12.out
        rw [headsL_succ, ← HM.out.1]
        rw [rowsL_one _ 10 rfl, rowsL_one _ 11 rfl] at h12
        simpa [onesL, List.append_assoc] using h12
      case measure => simp [intOf]; omega
    · obtain rfl : p.heads = h := by omega
      have i1 : ¬ (p.heads : Int) < (p.heads : Int) := by omega
      have d3 : wr.cell? ⟨P + 1, 3, none⟩ = some (.int .i64 hd') := by rw [cell_of_row _ _ 3 _ _ _ HX.out.st]; rfl
      have f3 := frozen_of_row wr (P + 1) 3 _ _ HX.out.st
      go_upto_region 17 with fail
      obtain ⟨w13, hw13⟩ : ∃ w13, w13 = wr.setCell ⟨P + 1, 3, none⟩ (.int .i64 0) := ⟨_, rfl⟩
      rw [← hw13]
      have hx13 := HX.out.head 0
      rw [← hw13] at hx13
      obtain ⟨p0, p1, p2, p3, p4, p5, p6⟩ := hx13.cells
      have H13 := Lib.hid hx13
      clear hw13 hx13 d3 f3
      have hB13 : N ≤ 940000 := by omega
      go_upto_region 18 with (first | (refine wpList_load_mid rfl 88 (.tmp 9) rfl (P + 1) 0 rfl (Stp.Stp.cells ⟨0, (at_ : Int), (layer : Int), 0, 0⟩) _ (rangeAt_whole H13.out.st) Try.underlying88 rfl rstep_size ?_; simp only [Act.put, List.setIfInBounds_toArray, List.set_cons_succ, List.set_cons_zero]) | (go_at_call 83; (with_reducible refine Calls.mono (some_step H13.out 12 p.dim (by first | decide | omega) (by omega)) ?_); rintro e w14 ⟨A14, N14, c14, rfl, hN14, hx14⟩; have hB14 : N14 ≤ 940000 + 1000 * 1 := (by omega); clear hN14 p0 p1 p2 p3 p4 p5 p6; obtain ⟨p0, p1, p2, p3, p4, p5, p6⟩ := hx14.cells; have H14 := Lib.hid hx14; clear hx14))
      go_upto_region 19 with (first | (refine wpList_load_mid rfl 88 (.tmp 9) rfl (P + 1) 0 rfl (Stp.Stp.cells ⟨0, (at_ : Int), (layer : Int), 0, 0⟩) _ (rangeAt_whole H14.out.st) Try.underlying88 rfl rstep_size ?_; simp only [Act.put, List.setIfInBounds_toArray, List.set_cons_succ, List.set_cons_zero]) | (go_at_call 83; (with_reducible refine Calls.mono (some_step H14.out 13 1 (by first | decide | omega) (by omega)) ?_); rintro e w15 ⟨A15, N15, c15, rfl, hN15, hx15⟩; have hB15 : N15 ≤ 940000 + 1000 * 2 := (by omega); clear hN15 p0 p1 p2 p3 p4 p5 p6; obtain ⟨p0, p1, p2, p3, p4, p5, p6⟩ := hx15.cells; have H15 := Lib.hid hx15; clear hx15))
      go_upto_region 20 with (first | (refine wpList_load_mid rfl 88 (.tmp 9) rfl (P + 1) 0 rfl (Stp.Stp.cells ⟨0, (at_ : Int), (layer : Int), 0, 0⟩) _ (rangeAt_whole H15.out.st) Try.underlying88 rfl rstep_size ?_; simp only [Act.put, List.setIfInBounds_toArray, List.set_cons_succ, List.set_cons_zero]) | (go_at_call 83; (with_reducible refine Calls.mono (some_step H15.out 14 1 (by first | decide | omega) (by omega)) ?_); rintro e w16 ⟨A16, N16, c16, rfl, hN16, hx16⟩; have hB16 : N16 ≤ 940000 + 1000 * 3 := (by omega); clear hN16 p0 p1 p2 p3 p4 p5 p6; obtain ⟨p0, p1, p2, p3, p4, p5, p6⟩ := hx16.cells; have H16 := Lib.hid hx16; clear hx16))
      go_upto_region 21 with (first | (refine wpList_load_mid rfl 88 (.tmp 9) rfl (P + 1) 0 rfl (Stp.Stp.cells ⟨0, (at_ : Int), (layer : Int), 0, 0⟩) _ (rangeAt_whole H16.out.st) Try.underlying88 rfl rstep_size ?_; simp only [Act.put, List.setIfInBounds_toArray, List.set_cons_succ, List.set_cons_zero]) | (go_at_call 83; (with_reducible refine Calls.mono (some_step H16.out 15 p.hidden (by first | decide | omega) (by omega)) ?_); rintro e w17 ⟨A17, N17, c17, rfl, hN17, hx17⟩; have hB17 : N17 ≤ 940000 + 1000 * 4 := (by omega); clear hN17 p0 p1 p2 p3 p4 p5 p6; obtain ⟨p0, p1, p2, p3, p4, p5, p6⟩ := hx17.cells; have H17 := Lib.hid hx17; clear hx17))
      go_upto_region 22 with (first | (refine wpList_load_mid rfl 88 (.tmp 9) rfl (P + 1) 0 rfl (Stp.Stp.cells ⟨0, (at_ : Int), (layer : Int), 0, 0⟩) _ (rangeAt_whole H17.out.st) Try.underlying88 rfl rstep_size ?_; simp only [Act.put, List.setIfInBounds_toArray, List.set_cons_succ, List.set_cons_zero]) | (go_at_call 83; (with_reducible refine Calls.mono (some_step H17.out 16 1 (by first | decide | omega) (by omega)) ?_); rintro e w18 ⟨A18, N18, c18, rfl, hN18, hx18⟩; have hB18 : N18 ≤ 940000 + 1000 * 5 := (by omega); clear hN18 p0 p1 p2 p3 p4 p5 p6; obtain ⟨p0, p1, p2, p3, p4, p5, p6⟩ := hx18.cells; have H18 := Lib.hid hx18; clear hx18))
      go_upto_region 23 with (first | (refine wpList_load_mid rfl 88 (.tmp 9) rfl (P + 1) 0 rfl (Stp.Stp.cells ⟨0, (at_ : Int), (layer : Int), 0, 0⟩) _ (rangeAt_whole H18.out.st) Try.underlying88 rfl rstep_size ?_; simp only [Act.put, List.setIfInBounds_toArray, List.set_cons_succ, List.set_cons_zero]) | (go_at_call 83; (with_reducible refine Calls.mono (some_step H18.out 17 p.hidden (by first | decide | omega) (by omega)) ?_); rintro e w19 ⟨A19, N19, c19, rfl, hN19, hx19⟩; have hB19 : N19 ≤ 940000 + 1000 * 6 := (by omega); clear hN19 p0 p1 p2 p3 p4 p5 p6; obtain ⟨p0, p1, p2, p3, p4, p5, p6⟩ := hx19.cells; have H19 := Lib.hid hx19; clear hx19))
      go_upto_region 24 with (first | (refine wpList_load_mid rfl 88 (.tmp 9) rfl (P + 1) 0 rfl (Stp.Stp.cells ⟨0, (at_ : Int), (layer : Int), 0, 0⟩) _ (rangeAt_whole H19.out.st) Try.underlying88 rfl rstep_size ?_; simp only [Act.put, List.setIfInBounds_toArray, List.set_cons_succ, List.set_cons_zero]) | (go_at_call 83; (with_reducible refine Calls.mono (some_step H19.out 18 1 (by first | decide | omega) (by omega)) ?_); rintro e w20 ⟨A20, N20, c20, rfl, hN20, hx20⟩; have hB20 : N20 ≤ 940000 + 1000 * 7 := (by omega); clear hN20 p0 p1 p2 p3 p4 p5 p6; obtain ⟨p0, p1, p2, p3, p4, p5, p6⟩ := hx20.cells; have H20 := Lib.hid hx20; clear hx20))
      go_upto_region 25 with (first | (refine wpList_load_mid rfl 88 (.tmp 9) rfl (P + 1) 0 rfl (Stp.Stp.cells ⟨0, (at_ : Int), (layer : Int), 0, 0⟩) _ (rangeAt_whole H20.out.st) Try.underlying88 rfl rstep_size ?_; simp only [Act.put, List.setIfInBounds_toArray, List.set_cons_succ, List.set_cons_zero]) | (go_at_call 83; (with_reducible refine Calls.mono (some_step H20.out 19 p.dim (by first | decide | omega) (by omega)) ?_); rintro e w21 ⟨A21, N21, c21, rfl, hN21, hx21⟩; have hB21 : N21 ≤ 940000 + 1000 * 8 := (by omega); clear hN21 p0 p1 p2 p3 p4 p5 p6; obtain ⟨p0, p1, p2, p3, p4, p5, p6⟩ := hx21.cells; have H21 := Lib.hid hx21; clear hx21))
      go_wp2_with (first | (refine wpList_load_mid rfl 88 (.tmp 9) rfl (P + 1) 0 rfl (Stp.Stp.cells ⟨0, (at_ : Int), (layer : Int), 0, 0⟩) _ (rangeAt_whole H21.out.st) Try.underlying88 rfl rstep_size ?_; simp only [Act.put, List.setIfInBounds_toArray, List.set_cons_succ, List.set_cons_zero]) | (go_at_call 83; (with_reducible refine Calls.mono (some_step H21.out 20 1 (by first | decide | omega) (by omega)) ?_); rintro e w22 ⟨A22, N22, c22, rfl, hN22, hx22⟩; have hB22 : N22 ≤ 940000 + 1000 * 9 := (by omega); clear hN22 p0 p1 p2 p3 p4 p5 p6; obtain ⟨p0, p1, p2, p3, p4, p5, p6⟩ := hx22.cells; have H22 := Lib.hid hx22; clear hx22))
      go_ret
      have h9 := H22.out
      have hfin : ((((((((((L8 ++ headsL (⟨0, (at_ : Int), (layer : Int), 0, 0⟩ : Stp.Stp) p.heads at_) ++ rowsL (⟨0, (at_ : Int), (layer : Int), 0, 0⟩ : Stp.Stp) 12 p.dim) ++ rowsL (⟨0, (at_ : Int), (layer : Int), 0, 0⟩ : Stp.Stp) 13 1) ++ rowsL (⟨0, (at_ : Int), (layer : Int), 0, 0⟩ : Stp.Stp) 14 1) ++ rowsL (⟨0, (at_ : Int), (layer : Int), 0, 0⟩ : Stp.Stp) 15 p.hidden) ++ rowsL (⟨0, (at_ : Int), (layer : Int), 0, 0⟩ : Stp.Stp) 16 1) ++ rowsL (⟨0, (at_ : Int), (layer : Int), 0, 0⟩ : Stp.Stp) 17 p.hidden) ++ rowsL (⟨0, (at_ : Int), (layer : Int), 0, 0⟩ : Stp.Stp) 18 1) ++ rowsL (⟨0, (at_ : Int), (layer : Int), 0, 0⟩ : Stp.Stp) 19 p.dim) ++ rowsL (⟨0, (at_ : Int), (layer : Int), 0, 0⟩ : Stp.Stp) 20 1) = cur ++ layerL p at_ layer := by
        rw [HL8.out]
        unfold layerL
        simp only [rowsL_one (⟨0, (at_ : Int), (layer : Int), 0, 0⟩ : Stp.Stp) _ rfl]
        simp [onesL, List.append_assoc]
      rw [hfin] at h9
      rw [← h9.hN]
      refine ⟨A22, c22, rfl, h9.own, h9.keep, fun b hb => ?_⟩
      rcases h9.blk b hb with h | h
      · exact .inl h
      · have := h9.hP; exact .inr (by omega)
end Go.Proofs.Ytfhaebaegkpkhaa.Rf12

set_option linter.unusedVariables false
set_option linter.unusedSimpArgs false
namespace Go.Proofs.Ytfhaebaegkpkhaa.Rf12
open Go.RowKit OwnS Byt Cfg Stp Pln
attribute [local go_sem ↓] Kit.execOp_call_slot
attribute [local go_sem] Kit.callSlot_func
/-- Sizes that are not too great. -/
structure Small (p : Pln) : Prop where
  b : p.vocab ≤ 512 ∧ p.dim ≤ 64 ∧ p.heads ≤ 8 ∧ p.layers ≤ 4 ∧ p.hidden ≤ 64
  l : 1 ≤ p.limit
  s : 1 ≤ p.prompt ∧ p.prompt + p.limit ≤ 64
theorem Small.places {p : Pln} (h : Small p) : (p.prompt : Int) + (p.limit : Int) - 1 = (p.places : Int) ∧ p.places ≤ 64 := by
  have := h.l; have := h.s
  unfold Pln.places
  omega
theorem rplaces_any (W : World) (p : Pln) (h : Small p) : Calls Try.prog 35 #[.agg (refC p).toArray] W fun e w' => e = .returned (.int .i64 (p.places : Int)) ∧ Below W.heap.size W w' := by
  have hpp := h.places.1
  have j1 : (p.prompt : Int) + (p.limit : Int) ≤ 64 := by have := h.s; omega
  have j2 : (1 : Int) ≤ (p.prompt : Int) := by have := h.s; omega
  have j3 : (1 : Int) ≤ (p.limit : Int) := by have := h.l; omega
  have HP := Lib.hid hpp
  clear hpp h
  unfold refC
  go_enter Try.func35, Try.ntmps35
  go_wp2_with fail
  go_ret
  rw [HP.out]
  exact ⟨rfl, (Below.refl _ _).alloc (Nat.le_refl _) _⟩
theorem layer_step {W w : World} {base P SB : Nat} {v0 : Value} {A : Option Addr} {N c : Nat} {cur : List Stp.Stp} {p : Pln} {s : Stp.Stp} (x : LSt W w base P SB v0 A N c cur p s) (hp : Small p) (at_ layer : Nat) (hat : at_ ≤ 64) (hcur : N ≤ 800000) :
    Calls Try.prog 84 #[.agg (refC p).toArray, .slice A N c, .int .i64 (at_ : Int), .int .i64 (layer : Int)] w fun e w' => ∃ A' N' c', e = .returned (.slice A' N' c') ∧ N' ≤ N + 1000 ∧ LSt W w' base P SB v0 A' N' c' (cur ++ layerL p at_ layer) p s := by
  have hb := x.base_le
  have hs := x.keep.size
  have ho := x.own
  have hN := x.hN
  subst hN
  obtain ⟨b1, b2, b3, b4, b5⟩ := hp.b
  refine (layer_any w base (by omega) cur A c ho p at_ layer hcur (by omega) (by omega) (by omega) (by omega)).mono ?_
  rintro e w' ⟨A', c', rfl, h1, h2, h3⟩
  refine ⟨A', _, c', rfl, ?_, x.more h1 h2 h3⟩
  rw [List.length_append, layerL_length]
  have : p.heads * (at_ + 3) ≤ 8 * 67 := Nat.mul_le_mul b3 (by omega)
  omega
/-- Between two places. -/
structure PSt (W w : World) (A : Option Addr) (N c : Nat) (cur : List Stp.Stp) (p : Pln) : Prop where
  hN : N = cur.length
  pl : w.heap[W.heap.size]? = some (.cells (refC p).toArray 84 (0, 0))
  own : Owns w W.heap.size 5 (.slice A N c) N (flatS cur)
  below : Below W.heap.size W w
  blk : ∀ b, (Value.slice A N c).ownBlock = some b → b ≠ W.heap.size
theorem PSt.cells {W w : World} {A : Option Addr} {N c : Nat} {cur : List Stp.Stp} {p : Pln} (x : PSt W w A N c cur p) : w.cell? ⟨W.heap.size, 5, none⟩ = some (.int .i64 (p.prompt : Int)) := by rw [cell_of_row _ _ _ _ _ _ x.pl]; rfl
theorem PSt.grow {W w w' : World} {A : Option Addr} {N c : Nat} {cur : List Stp.Stp} {p : Pln} (x : PSt W w A N c cur p) (h : Below w.heap.size w w') : PSt W w' A N c cur p :=
  ⟨x.hN, (h.block _ (Array.getElem?_eq_some_iff.1 x.pl).1).trans x.pl, x.own.same (fun b hb => h.block b (x.own.lt b hb).2) h.size, below_chain x.below h, x.blk⟩
theorem PSt.begin {W w : World} {A : Option Addr} {N c : Nat} {cur : List Stp.Stp} {p : Pln} (x : PSt W w A N c cur p) (s : Stp.Stp) : LSt W (w.alloc (.cells s.cells.toArray 88)) W.heap.size W.heap.size w.heap.size (.slice none 0 0) A N c cur p s := by
  have hlt := (Array.getElem?_eq_some_iff.1 x.pl).1
  refine ⟨x.hN, Nat.le_refl _, (Below.heap_alloc _ _ _ hlt).trans x.pl, heap_alloc_new w _, ⟨Nat.le_refl _, by omega, by omega⟩, x.own.alloc _, (Keeps.of_below x.below (fun b hb h => by omega)).alloc _, (fun b hb => by cases hb), fun b hb => ?_⟩
  have := x.own.lt b hb
  exact .inr ⟨this.1, x.blk b hb, by omega⟩
theorem LSt.done {W w : World} {SB : Nat} {A : Option Addr} {N c : Nat} {cur : List Stp.Stp} {p : Pln} {s : Stp.Stp} (x : LSt W w W.heap.size W.heap.size SB (.slice none 0 0) A N c cur p s) : PSt W w A N c cur p :=
  ⟨x.hN, x.pl, x.own, x.keep.below (Nat.le_refl _) (fun b _ h => by cases h), fun b hb => x.ne (.inl rfl) b hb⟩
set_option maxRecDepth 100000 in
set_option maxHeartbeats 8000000 in
theorem rsteps_any (W : World) (p : Pln) (hp : Small p) : Calls Try.prog 34 #[.agg (refC p).toArray] W fun e w' => ∃ A c, e = .returned (.slice A (stepsL p).length c) ∧ Owns w' W.heap.size 5 (.slice A (stepsL p).length c) (stepsL p).length (flatS (stepsL p)) ∧ Below W.heap.size W w' := by
  obtain ⟨hpl1, hpl2⟩ := hp.places
  obtain ⟨b1, b2, b3, b4, b5⟩ := hp.b
  obtain ⟨PL, hPL⟩ : ∃ PL, PL = p.places := ⟨_, rfl⟩
  have hplc := fun w => rplaces_any w p hp
  rw [← hPL] at hpl2 hplc
  have hs := hp.s
  have hs1 : (1 : Int) ≤ (p.prompt : Int) := by omega
  have hs2 : (p.prompt : Int) ≤ 64 := by omega
  have HP := Lib.hid (And.intro hp (And.intro hPL hplc))
  clear hplc hPL hp hpl1 hs
  go_enter Try.func34, Try.ntmps34
  go_wp2_with fail
  go_loopw [3, 4] (fun v3 v4 wr => ∃ (i : Nat) (A : Option Addr) (N c : Nat), i ≤ PL ∧ v3 = .slice A N c ∧ v4 = .int .i64 (i : Int) ∧ N ≤ 10000 * i ∧ Hid (PSt W wr A N c (stepsTo p i) p)) (fun _ v4 _ => PL - (intOf v4).toNat)
  case atStart => exact ⟨0, none, 0, 0, Nat.zero_le _, rfl, rfl, Nat.zero_le _, Lib.hid ⟨rfl, heap_alloc_new W _, Owns.nil _ _ _, (Below.refl _ _).alloc (Nat.le_refl _) _, fun b hb => by cases hb⟩⟩
  case round =>
    obtain ⟨i, A, N, c, hi, rfl, rfl, hNb, hI⟩ := hrel
    by_cases hlt : i < PL
    · have i1 : (i : Int) < (PL : Int) := by omega
      have i2 : (i : Int) ≤ 64 := by omega
      go_upto_region 5 with (first | (refine wpList_load_mid rfl 84 (.tmp 1) rfl W.heap.size 0 rfl (refC p) _ (rangeAt_whole hI.out.pl) Try.underlying84 rfl ref_size ?_; simp only [Act.put, List.setIfInBounds_toArray, List.set_cons_succ, List.set_cons_zero]) | (go_at_call 35; (with_reducible refine Calls.mono (HP.out.2.2 wr) ?_); rintro e w3 ⟨rfl, hb3⟩; have H3 := Lib.hid (hI.out.grow hb3); clear hb3))
      go_upto_region 6 with fail
      have hx4 := H3.out.begin (⟨0, (i : Int), 0, 0, 0⟩ : Stp.Stp)
      obtain ⟨w4, hw4⟩ : ∃ w4, w4 = w3.alloc (.cells (Stp.Stp.cells (⟨0, (i : Int), 0, 0, 0⟩ : Stp.Stp)).toArray 88) := ⟨_, rfl⟩
      rw [← hw4] at hx4
      change Code.wp _ _ _ _ (w3.alloc (.cells (Stp.Stp.cells (⟨0, (i : Int), 0, 0, 0⟩ : Stp.Stp)).toArray 88))
      rw [← hw4]
      obtain ⟨SB, hSB⟩ : ∃ SB, SB = w3.heap.size := ⟨_, rfl⟩
      rw [← hSB] at hx4 ⊢
      clear hSB hw4
      obtain ⟨p0, p1, p2, p3, p4, p5, p6⟩ := hx4.cells
      have H4 := Lib.hid hx4
      clear hx4
      go_upto_region 7 with (first | (refine wpList_load_mid rfl 88 (.tmp 5) rfl SB 0 rfl (Stp.Stp.cells ⟨0, (i : Int), 0, 0, 0⟩) _ (rangeAt_whole H4.out.st) Try.underlying88 rfl rstep_size ?_; simp only [Act.put, List.setIfInBounds_toArray, List.set_cons_succ, List.set_cons_zero]) | (go_at_call 83; (with_reducible refine Calls.mono (some_step H4.out 1 1 (by first | decide | omega) (by omega)) ?_); rintro e w5 ⟨A5, N5, c5, rfl, hN5, hx5⟩; have hB5 : N5 ≤ 10000 * i + 1 := (by omega); clear hN5 p0 p1 p2 p3 p4 p5 p6; obtain ⟨p0, p1, p2, p3, p4, p5, p6⟩ := hx5.cells; have H5 := Lib.hid hx5; clear hx5))
      clear H4 H3 hI
      clear p0 p1 p2 p3 p4 p5 p6
      go_upto_region 8 with fail
      obtain ⟨L5, hL5⟩ : ∃ L5, L5 = stepsTo p i ++ rowsL (⟨0, (i : Int), 0, 0, 0⟩ : Stp.Stp) 1 1 := ⟨_, rfl⟩
      rw [← hL5] at H5
      have HL5 := Lib.hid hL5
      clear hL5
      go_loopw [3, 6] (fun v3 v6 wj => ∃ (j : Nat) (A : Option Addr) (N c : Nat), j ≤ p.layers ∧ v3 = .slice A N c ∧ v6 = .int .i64 (j : Int) ∧ N ≤ 10000 * i + 1 + 1000 * j ∧ Hid (LSt W wj W.heap.size W.heap.size SB (.slice none 0 0) A N c (L5 ++ layersL p i j) p ⟨0, (i : Int), 0, 0, 0⟩)) (fun _ v6 _ => p.layers - (intOf v6).toNat)
      case atStart =>
        refine ⟨0, A5, N5, c5, Nat.zero_le _, rfl, rfl, by omega, ?_⟩
        rw [show layersL p i 0 = [] from rfl, List.append_nil]
        exact H5
      case round =>
        obtain ⟨j, A, N, c, hj, rfl, rfl, hNj, hJ⟩ := hrel
        obtain ⟨p0, p1, p2, p3, p4, p5, p6⟩ := hJ.out.cells
        by_cases hlj : j < p.layers
        · have j1 : (j : Int) < (p.layers : Int) := by omega
          go_wp2_with (first | (refine wpList_load_mid rfl 84 (.tmp 1) rfl W.heap.size 0 rfl (refC p) _ (rangeAt_whole hJ.out.pl) Try.underlying84 rfl ref_size ?_; simp only [Act.put, List.setIfInBounds_toArray, List.set_cons_succ, List.set_cons_zero]) | (go_at_call 84; (with_reducible refine Calls.mono (layer_step hJ.out HP.out.1 i j (by omega) (by omega)) ?_); rintro e w7 ⟨A7, N7, c7, rfl, hN7, hx7⟩; have H7 := Lib.hid hx7; clear hx7))
          go_roundw
          case rel =>
            refine ⟨j + 1, A7, N7, c7, by omega, rfl, by go_num, by omega, ?_⟩
            rw [layersL_succ, ← List.append_assoc]
            exact H7
          case measure => simp [intOf]; omega
        · obtain rfl : p.layers = j := by omega
          have j1 : ¬ (p.layers : Int) < (p.layers : Int) := by omega
          go_upto_region 12 with (first | (refine wpList_load_mid rfl 88 (.tmp 5) rfl SB 0 rfl (Stp.Stp.cells ⟨0, (i : Int), 0, 0, 0⟩) _ (rangeAt_whole hJ.out.st) Try.underlying88 rfl rstep_size ?_; simp only [Act.put, List.setIfInBounds_toArray, List.set_cons_succ, List.set_cons_zero]) | (go_at_call 83; (with_reducible refine Calls.mono (some_step hJ.out 21 1 (by first | decide | omega) (by omega)) ?_); rintro e w8 ⟨A8, N8, c8, rfl, hN8, hx8⟩; have hB8 : N8 ≤ 10000 * i + 1 + 1000 * p.layers + 1 := (by omega); clear hN8 p0 p1 p2 p3 p4 p5 p6; obtain ⟨p0, p1, p2, p3, p4, p5, p6⟩ := hx8.cells; have H8 := Lib.hid hx8; clear hx8))
          go_upto_region 13 with (first | (refine wpList_load_mid rfl 88 (.tmp 5) rfl SB 0 rfl (Stp.Stp.cells ⟨0, (i : Int), 0, 0, 0⟩) _ (rangeAt_whole H8.out.st) Try.underlying88 rfl rstep_size ?_; simp only [Act.put, List.setIfInBounds_toArray, List.set_cons_succ, List.set_cons_zero]) | (go_at_call 83; (with_reducible refine Calls.mono (some_step H8.out 22 p.vocab (by first | decide | omega) (by omega)) ?_); rintro e w9 ⟨A9, N9, c9, rfl, hN9, hx9⟩; have hB9 : N9 ≤ 10000 * i + 5600 := (by omega); clear hN9 p0 p1 p2 p3 p4 p5 p6; obtain ⟨p0, p1, p2, p3, p4, p5, p6⟩ := hx9.cells; have H9 := Lib.hid hx9; clear hx9))
          have h9 := H9.out
          have hfin : ((L5 ++ layersL p i p.layers) ++ rowsL (⟨0, (i : Int), 0, 0, 0⟩ : Stp.Stp) 21 1) ++ rowsL (⟨0, (i : Int), 0, 0, 0⟩ : Stp.Stp) 22 p.vocab = stepsTo p i ++ (onesL (⟨0, (i : Int), 0, 0, 0⟩ : Stp.Stp) [1] ++ layersL p i p.layers ++ onesL (⟨0, (i : Int), 0, 0, 0⟩ : Stp.Stp) [21] ++ rowsL (⟨0, (i : Int), 0, 0, 0⟩ : Stp.Stp) 22 p.vocab) := by
            rw [HL5.out, rowsL_one (⟨0, (i : Int), 0, 0, 0⟩ : Stp.Stp) 1 rfl, rowsL_one (⟨0, (i : Int), 0, 0, 0⟩ : Stp.Stp) 21 rfl]
            simp [List.append_assoc]
          rw [hfin] at h9
          have hle := stepsTo_le p ⟨b1, b2, b3, b4, b5⟩ (i + 1) (by omega)
          by_cases hpa : p.prompt ≤ i + 1
          · have j2 : (p.prompt : Int) - 1 ≤ (i : Int) := by omega
            have hpl : Stp.placeL p i = (onesL (⟨0, (i : Int), 0, 0, 0⟩ : Stp.Stp) [1] ++ layersL p i p.layers ++ onesL (⟨0, (i : Int), 0, 0, 0⟩ : Stp.Stp) [21] ++ rowsL (⟨0, (i : Int), 0, 0, 0⟩ : Stp.Stp) 22 p.vocab) ++ rowsL (⟨0, (i : Int), 0, 0, 0⟩ : Stp.Stp) 23 1 := by
              unfold Stp.placeL
              rw [rowsL_one (⟨0, (i : Int), 0, 0, 0⟩ : Stp.Stp) 23 rfl]
              simp [hpa]
            have HZ := Lib.hid (And.intro hpl hle)
            have H9 := Lib.hid h9
            clear hpl hle h9 hfin H8 hJ H5
            go_wp2_with (first | (refine wpList_load_mid rfl 88 (.tmp 5) rfl SB 0 rfl (Stp.Stp.cells ⟨0, (i : Int), 0, 0, 0⟩) _ (rangeAt_whole H9.out.st) Try.underlying88 rfl rstep_size ?_; simp only [Act.put, List.setIfInBounds_toArray, List.set_cons_succ, List.set_cons_zero]) | (go_at_call 83; (with_reducible refine Calls.mono (some_step H9.out 23 1 (by first | decide | omega) (by omega)) ?_); rintro e w10 ⟨A10, N10, c10, rfl, hN10, hx10⟩; have hB10 : N10 ≤ 10000 * i + 5700 := (by omega); clear hN10 p0 p1 p2 p3 p4 p5 p6; obtain ⟨p0, p1, p2, p3, p4, p5, p6⟩ := hx10.cells; have H10 := Lib.hid hx10; clear hx10))
            go_roundw
            case rel =>
              have h10 := H10.out
              rw [List.append_assoc, ← HZ.out.1, ← stepsTo_succ] at h10
              have h11 := h10.hN
              have h12 := HZ.out.2
              exact ⟨i + 1, A10, N10, c10, by omega, rfl, by go_num, by omega, Lib.hid h10.done⟩
            case measure => simp [intOf]; omega
          · have j2 : (i : Int) < (p.prompt : Int) - 1 := by omega
            have hpl : Stp.placeL p i = onesL (⟨0, (i : Int), 0, 0, 0⟩ : Stp.Stp) [1] ++ layersL p i p.layers ++ onesL (⟨0, (i : Int), 0, 0, 0⟩ : Stp.Stp) [21] ++ rowsL (⟨0, (i : Int), 0, 0, 0⟩ : Stp.Stp) 22 p.vocab := by
              unfold Stp.placeL
              simp [hpa]
            have HZ := Lib.hid (And.intro hpl hle)
            have H9 := Lib.hid h9
            clear hpl hle h9 hfin H8 hJ H5
            go_wp2_with fail
            go_roundw
            case rel =>
              have h10 := H9.out
              rw [← HZ.out.1, ← stepsTo_succ] at h10
              have h11 := h10.hN
              have h12 := HZ.out.2
              exact ⟨i + 1, A9, N9, c9, by omega, rfl, by go_num, by omega, Lib.hid h10.done⟩
            case measure => simp [intOf]; omega
    · obtain rfl : PL = i := by omega
      go_wp2_with (first | (refine wpList_load_mid rfl 84 (.tmp 1) rfl W.heap.size 0 rfl (refC p) _ (rangeAt_whole hI.out.pl) Try.underlying84 rfl ref_size ?_; simp only [Act.put, List.setIfInBounds_toArray, List.set_cons_succ, List.set_cons_zero]) | (go_at_call 35; (with_reducible refine Calls.mono (HP.out.2.2 wr) ?_); rintro e w3 ⟨rfl, hb3⟩; have H3 := Lib.hid (hI.out.grow hb3); clear hb3))
      go_ret
      have h3 := H3.out
      have he : stepsTo p PL = stepsL p := by rw [HP.out.2.1]; rfl
      rw [he] at h3
      rw [← h3.hN]
      exact ⟨A, c, rfl, h3.own, h3.below⟩
end Go.Proofs.Ytfhaebaegkpkhaa.Rf12


set_option linter.unusedVariables false
set_option linter.unusedSimpArgs false
namespace Go.Proofs.Ytfhaebaegkpkhaa.Tl
open Go.RowKit OwnS Byt Cfg Stp Pln QTail RevL
attribute [local go_sem ↓] Kit.execOp_call_slot
attribute [local go_sem] Kit.callSlot_func
theorem eq_step (w : World) (s y : Stp.Stp) : (binOp .eql 69 s.val y.val).run Try.prog w = .ok (.bool (decide (s = y))) w := by
  obtain ⟨a0, a1, a2, a3, a4⟩ := s
  obtain ⟨b0, b1, b2, b3, b4⟩ := y
  have he : decide ((⟨a0, a1, a2, a3, a4⟩ : Stp.Stp) = ⟨b0, b1, b2, b3, b4⟩) = (decide (a0 = b0) && (decide (a1 = b1) && (decide (a2 = b2) && (decide (a3 = b3) && decide (a4 = b4))))) := by
    rw [Bool.eq_iff_iff]
    simp [Stp.Stp.mk.injEq]
  rw [he]
  unfold Stp.Stp.val
  simp [go_sem]
  by_cases h0 : a0 = b0 <;> by_cases h1 : a1 = b1 <;> by_cases h2 : a2 = b2 <;> by_cases h3 : a3 = b3 <;> by_cases h4 : a4 = b4 <;> simp [h0, h1, h2, h3, h4]
theorem flatS_at (l : List Stp.Stp) (k : Nat) (h : k < l.length) (j : Nat) (hj : j < 5) : (flatS l)[k * 5 + j]? = (l[k]).cells[j]? := by
  induction l generalizing k with
  | nil => simp at h
  | cons b l ih =>
    have e : flatS (b :: l) = b.cells ++ flatS l := by simp [flatS]
    rw [e]
    cases k with
    | zero => rw [List.getElem?_append_left (by simp [Stp.Stp.cells]; omega)]; simp
    | succ k =>
      rw [List.getElem?_append_right (by simp [Stp.Stp.cells]; omega)]
      have : (k + 1) * 5 + j - b.cells.length = k * 5 + j := by simp [Stp.Stp.cells]; omega
      rw [this]
      simpa using ih k (by simpa using h)
/-- The k-th step of a row in memory. -/
theorem step_at {w : World} {g o : Nat} {l : List Stp.Stp} (h : w.rangeAt g o (flatS l)) {k : Nat} (hk : k < l.length) : w.rangeAt g (o + k * 5) (l[k]).cells := fun j u hj => by
  have hj5 : j < 5 := by have := (List.getElem?_eq_some_iff.1 hj).1; simpa [Stp.Stp.cells] using this
  have := h (k * 5 + j) u (by rw [flatS_at l k hk j hj5]; exact hj)
  rwa [← Nat.add_assoc] at this
theorem step_size : (Try.prog.info? 69).map (·.size) = some 5 := by kernel_rfl
set_option maxRecDepth 100000 in
set_option maxHeartbeats 4000000 in
theorem sindex_any (W : World) (l : List Stp.Stp) (A : Option Addr) (c : Nat) (hv : Sees W 5 (.slice A l.length c) l.length (flatS l)) (hl : l.length ≤ 700000) (s : Stp.Stp) (hs : s ∈ l) :
    Calls Try.prog 125 #[.slice A l.length c, s.val] W fun e w' => ∃ r : Nat, e = .returned (.int .i64 (r : Int)) ∧ Below W.heap.size W w' := by
  obtain ⟨n, hn⟩ : ∃ n, n = l.length := ⟨_, rfl⟩
  rw [← hn] at hv hl ⊢
  obtain ⟨w1, hw1⟩ : ∃ w1, w1 = W.alloc (.cells s.cells.toArray 69) := ⟨_, rfl⟩
  have hb1 : Below W.heap.size W w1 := by rw [hw1]; exact (Below.refl _ _).alloc (Nat.le_refl _) _
  have hst : w1.heap[W.heap.size]? = some (.cells s.cells.toArray 69 (0, 0)) := by rw [hw1]; exact heap_alloc_new W _
  have hv1 := hv.new hb1
  have HW := Lib.hid hw1
  have HC := Lib.hid (And.intro hb1 (And.intro hst (And.intro hv1 (And.intro hn hs))))
  clear hw1 hb1 hst hv1 hn hs hv
  go_enter Try.func125, Try.ntmps125
  go_upto_region 1 with fail
  change Code.wp _ _ _ _ (W.alloc (.cells s.cells.toArray 69))
  rw [← HW.out]
  go_wp2_with fail
  go_loopw [8] (fun v8 wr => ∃ k : Nat, k ≤ n ∧ v8 = .int .i64 (k : Int) ∧ Hid ((∀ j (h : j < l.length), j < k → l[j] ≠ s) ∧ Below w1.heap.size w1 wr)) (fun v8 _ => n - (intOf v8).toNat)
  case atStart => exact ⟨0, Nat.zero_le _, rfl, Lib.hid ⟨fun j h hj => by omega, Below.refl _ _⟩⟩
  case round =>
    obtain ⟨k, hk, rfl, hI⟩ := hrel
    by_cases hlt : k < n
    · have hkl : k < l.length := by have := HC.out.2.2.2.1; omega
      obtain ⟨g, o, cap, he, -, -, hra⟩ := (HC.out.2.2.1.new hI.out.2).holds (by omega)
      injection he with he1 he2 he3
      subst he1
      have hsk := step_at hra hkl
      have hss := rangeAt_whole ((hI.out.2.block _ (Array.getElem?_eq_some_iff.1 HC.out.2.1).1).trans HC.out.2.1)
      have i1 : (k : Int) < (n : Int) := by omega
      have i2 : (k : Int) ≤ 700000 := by omega
      have heq : ∀ w, (binOp .eql 69 (.agg s.cells.toArray) (.agg (l[k]).cells.toArray)).run Try.prog w = .ok (.bool (decide (s = l[k]))) w := fun w => eq_step w s l[k]
      obtain ⟨y, hy⟩ : ∃ y, l[k]? = some y := ⟨_, List.getElem?_eq_getElem hkl⟩
      have hy' : l[k] = y := (List.getElem?_eq_some_iff.1 hy).2
      rw [hy'] at hsk heq
      obtain ⟨b, hb⟩ : ∃ b, b = decide (s = y) := ⟨_, rfl⟩
      rw [← hb] at heq
      have HR := Lib.hid (And.intro hsk (And.intro hss (And.intro hy hb)))
      have HI := Lib.hid hI.out
      clear hsk hss hra hy' hkl hy hb hI he2 he3
      go_upto_region 4 with fail
      have hd : Below wr.heap.size wr wr.drew := ⟨rfl, rfl, rfl, Nat.le_refl _, fun _ _ => rfl⟩
      refine wp_region_plan (fun w' => Below wr.heap.size wr w') (Plan.ofList [0, 1, 2, 3, 4, 5] .nil) (by kernel_rfl) (by kernel_rfl) (by kernel_rfl) hd ?_
      intro I hNI FF hFF
      have G1 : ∀ j, (FF j).rangeAt W.heap.size 0 s.cells := fun j => rangeAt_block HR.out.2.1 ((hFF j).block _ (block_lt_of_cell (HR.out.2.1 0 _ rfl)))
      have G2 : ∀ j, (FF j).rangeAt g (o + k * 5) y.cells := fun j => rangeAt_block HR.out.1 ((hFF j).block _ (block_lt_of_cell (HR.out.1 0 _ rfl)))
      have HG := Lib.hid (And.intro G1 (And.intro G2 hd))
      clear hFF G1 G2 hd
      simp only [Plan.ofList, Plan.lay, List.getElem?_cons_succ, List.getElem?_cons_zero]
      refine plan_take rfl ?_
      refine wpQuiet_load_mid rfl 69 (.tmp 3) rfl W.heap.size 0 rfl s.cells _ (by rintro _ ⟨j, rfl⟩; exact HG.out.1 j) Try.underlying69 rfl step_size ?_
      simp only [Act.put, List.setIfInBounds_toArray, List.set_cons_succ, List.set_cons_zero]
      refine wpQuiet_nil ?_
      iterate 3 (refine plan_take rfl ?_; go_big_quiet_step (fail); refine wpQuiet_nil ?_)
      refine plan_take rfl ?_
      refine wpQuiet_load_mid rfl 69 (.tmp 14) rfl g (o + k * 5) rfl y.cells _ (by rintro _ ⟨j, rfl⟩; exact HG.out.2.1 j) Try.underlying69 rfl step_size ?_
      simp only [Act.put, List.setIfInBounds_toArray, List.set_cons_succ, List.set_cons_zero]
      refine wpQuiet_nil ?_
      iterate 1 (refine plan_take rfl ?_; go_big_quiet_step (fail); refine wpQuiet_nil ?_)
      refine plan_nil ?_
      have HQ := Lib.hid heq
      clear heq
      cases b with
      | true =>
        go_wp2_with fail
        try (rw [Exit.noGoto_ret])
        go_ret
        exact ⟨k, rfl, below_chain HC.out.1 (below_chain HI.out.2 HG.out.2.2)⟩
      | false =>
        go_wp2_with fail
        go_roundw
        case rel =>
          refine ⟨k + 1, by omega, by go_num, Lib.hid ⟨fun j h hj => ?_, below_chain HI.out.2 HG.out.2.2⟩⟩
          by_cases hjk : j = k
          · subst hjk
            have h1 := HR.out.2.2.1
            have h2 := HR.out.2.2.2
            rw [List.getElem?_eq_getElem h] at h1
            injection h1 with h1
            intro e
            rw [h1] at e
            rw [e, decide_eq_true rfl] at h2
            cases h2
          · exact HI.out.1 j h (by omega)
        case measure => simp [intOf]; omega
    · exfalso
      obtain ⟨j, hj, e⟩ := List.getElem_of_mem HC.out.2.2.2.2
      have h1 := HC.out.2.2.2.1
      exact hI.out.1 j hj (by omega) e
theorem scontains_any (W : World) (l : List Stp.Stp) (A : Option Addr) (c : Nat) (hv : Sees W 5 (.slice A l.length c) l.length (flatS l)) (hl : l.length ≤ 700000) (s : Stp.Stp) (hs : s ∈ l) :
    Calls Try.prog 113 #[.slice A l.length c, s.val] W fun e w' => e = .returned (.bool true) ∧ Below W.heap.size W w' := by
  obtain ⟨w1, hw1⟩ : ∃ w1, w1 = W.alloc (.cells s.cells.toArray 69) := ⟨_, rfl⟩
  have hb1 : Below W.heap.size W w1 := by rw [hw1]; exact (Below.refl _ _).alloc (Nat.le_refl _) _
  have hst : w1.heap[W.heap.size]? = some (.cells s.cells.toArray 69 (0, 0)) := by rw [hw1]; exact heap_alloc_new W _
  have hix := sindex_any w1 l A c (hv.new hb1) hl s hs
  obtain ⟨n, hn⟩ : ∃ n, n = l.length := ⟨_, rfl⟩
  rw [← hn] at hix ⊢
  have HW := Lib.hid hw1
  have HC := Lib.hid (And.intro hb1 (And.intro hst hix))
  clear hw1 hb1 hst hix hn hs hv hl
  go_enter Try.func113, Try.ntmps113
  go_upto_region 1 with fail
  change Code.wp _ _ _ _ (W.alloc (.cells s.cells.toArray 69))
  rw [← HW.out]
  go_wp2_with (first | (refine wpList_load_mid rfl 69 (.tmp 3) rfl W.heap.size 0 rfl s.cells _ (rangeAt_whole HC.out.2.1) Try.underlying69 rfl step_size ?_; simp only [Act.put, List.setIfInBounds_toArray, List.set_cons_succ, List.set_cons_zero]) | (go_at_call 125; (refine Calls.mono HC.out.2.2 ?_); rintro e w2 ⟨r, rfl, hb2⟩; have hr : (0 : Int) ≤ (r : Int) := Int.natCast_nonneg r; have HB := Lib.hid hb2; clear hb2))
  go_ret
  exact ⟨by simp, below_chain HC.out.1 HB.out⟩
set_option maxRecDepth 100000 in
set_option maxHeartbeats 4000000 in
/-- A step of a plan's place is one of the plan's. -/
theorem has_any (W : World) (p : Pln) (ctx K : Int) (h : Okp p ctx K) (at_ : Nat) (hat : at_ < p.places) (s : Stp.Stp) (hs : s ∈ Stp.placeL p at_) (hpos : s.pos = (at_ : Int)) :
    Calls Try.prog 85 #[.agg (planC p ctx K).toArray, s.val] W fun e w' => e = .returned (.bool true) ∧ Below W.heap.size W w' := by
  obtain ⟨⟨b1, b2, b3, b4, b5⟩, f1, f2⟩ := h.facts
  obtain ⟨g1, g2⟩ := h.2.1
  have hpb : p.places ≤ 64 := by unfold Pln.places; omega
  have hplc := fun w => places_any w p ctx K h
  have hpc := fun w => place_any w p ctx K at_ (by omega) (by omega) (by omega) (by omega) (by omega) (by omega) (by omega)
  have hlen : (Stp.placeL p at_).length ≤ 700000 := by
    have h1 := stepsTo_le p ⟨b1, b2, b3, b4, b5⟩ (at_ + 1) (by omega)
    rw [stepsTo_succ, List.length_append] at h1
    omega
  obtain ⟨L, hL⟩ : ∃ L, L = Stp.placeL p at_ := ⟨_, rfl⟩
  rw [← hL] at hs hpc hlen
  obtain ⟨k0, pos, layer, head, row⟩ := s
  simp only at hpos
  subst hpos
  obtain ⟨w1, hw1⟩ : ∃ w1, w1 = (W.alloc (.cells (planC p ctx K).toArray 62)).alloc (.cells #[.int .i64 k0, .int .i64 (at_ : Int), .int .i64 layer, .int .i64 head, .int .i64 row] 69) := ⟨_, rfl⟩
  have hb1 : Below W.heap.size W w1 := by rw [hw1]; exact ((Below.refl _ _).alloc (Nat.le_refl _) _).alloc (by simp) _
  have hpl : w1.heap[W.heap.size]? = some (.cells (planC p ctx K).toArray 62 (0, 0)) := by rw [hw1, Below.heap_alloc _ _ _ (by simp)]; exact heap_alloc_new W _
  have hst : w1.heap[W.heap.size + 1]? = some (.cells (Stp.Stp.cells ⟨k0, (at_ : Int), layer, head, row⟩).toArray 69 (0, 0)) := by
    rw [hw1]
    have := heap_alloc_new (W.alloc (.cells (planC p ctx K).toArray 62)) (.cells #[.int .i64 k0, .int .i64 (at_ : Int), .int .i64 layer, .int .i64 head, .int .i64 row] 69)
    simpa [Stp.Stp.cells] using this
  obtain ⟨PL, hPL⟩ : ∃ PL, PL = p.places := ⟨_, rfl⟩
  rw [← hPL] at hplc hat hpb
  have i1 : (at_ : Int) < (PL : Int) := by omega
  have i2 : (0 : Int) ≤ (at_ : Int) := by omega
  unfold SlcPost at hpc
  have HW := Lib.hid hw1
  have HC := Lib.hid (And.intro hb1 (And.intro hpl (And.intro hst (And.intro hplc (And.intro hpc (And.intro hlen hs))))))
  clear hw1 hb1 hpl hst hplc hpc hlen hs h g1 g2 b1 b2 b3 b4 b5 f1 f2 hL hPL
  unfold Stp.Stp.val
  go_enter Try.func85, Try.ntmps85
  go_upto_region 1 with fail
  rw [← HW.out]
  have hd : Below w1.heap.size w1 w1.drew := ⟨rfl, rfl, rfl, Nat.le_refl _, fun _ _ => rfl⟩
  refine wp_region_plan (fun w' => Below w1.heap.size w1 w') (Plan.ofList [0, 1, 2, 3, 4, 5, 6, 7, 8, 9, 10, 11, 12, 13, 15, 14, 16, 17, 18] .nil) (by kernel_rfl) (by kernel_rfl) (by kernel_rfl) hd ?_
  intro I hNI FF hFF
  have G1 : ∀ j, (FF j).rangeAt W.heap.size 0 (planC p ctx K) := fun j => rangeAt_whole (((hFF j).block _ (Array.getElem?_eq_some_iff.1 HC.out.2.1).1).trans HC.out.2.1)
  have hgs : ∀ j, (FF j).heap[W.heap.size + 1]? = _ := fun j => ((hFF j).block _ (Array.getElem?_eq_some_iff.1 HC.out.2.2.1).1).trans HC.out.2.2.1
  have G2 : ∀ j, (FF j).rangeAt (W.heap.size + 1) 0 (Stp.Stp.cells ⟨k0, (at_ : Int), layer, head, row⟩) := fun j => rangeAt_whole (hgs j)
  have e1 : ∀ j, (FF j).cell? ⟨W.heap.size + 1, 1, none⟩ = some (.int .i64 (at_ : Int)) := fun j => by rw [cell_of_row _ _ 1 _ _ _ (hgs j)]; rfl
  have HG := Lib.hid (And.intro G1 (And.intro G2 hd))
  clear hFF G1 G2 hgs hd
  simp only [Plan.ofList, Plan.lay, List.getElem?_cons_succ, List.getElem?_cons_zero]
  iterate 6 (refine plan_take rfl ?_; go_big_quiet_step (fail); refine wpQuiet_nil ?_)
  refine plan_take rfl ?_
  refine wpQuiet_load_mid_w (by kernel_rfl) 62 (.tmp 2) rfl W.heap.size 0 rfl (planC p ctx K) _ (by rintro _ ⟨j, rfl⟩; exact HG.out.1 j) Try.underlying62 rfl plan_size ?_
  simp only [Act.put, List.setIfInBounds_toArray, List.set_cons_succ, List.set_cons_zero]
  refine wpQuiet_nil ?_
  refine plan_step rfl ?_
  go_wp2_with (go_at_call 30; (with_reducible refine Calls.mono (HC.out.2.2.2.1 _) ?_); rintro e w2 ⟨rfl, hb2⟩; have H2 := Lib.hid (HG.out.2.2.trans hb2); clear hb2)
  refine ⟨rfl, H2.out, ?_⟩
  iterate 3 (refine plan_take rfl ?_; go_big_quiet_step (fail); refine wpQuiet_nil ?_)
  refine plan_take rfl ?_
  refine wpQuiet_load_mid_w (by kernel_rfl) 62 (.tmp 2) rfl W.heap.size 0 rfl (planC p ctx K) _ (by rintro _ ⟨j, rfl⟩; exact HG.out.1 j) Try.underlying62 rfl plan_size ?_
  simp only [Act.put, List.setIfInBounds_toArray, List.set_cons_succ, List.set_cons_zero]
  refine wpQuiet_nil ?_
  iterate 2 (refine plan_take rfl ?_; go_big_quiet_step (fail); refine wpQuiet_nil ?_)
  refine plan_take rfl ?_
  refine wpQuiet_load_mid_w (by kernel_rfl) 69 (.tmp 3) rfl (W.heap.size + 1) 0 rfl (Stp.Stp.cells ⟨k0, (at_ : Int), layer, head, row⟩) _ (by rintro _ ⟨j, rfl⟩; exact HG.out.2.1 j) Try.underlying69 rfl step_size ?_
  simp only [Act.put, List.setIfInBounds_toArray, List.set_cons_succ, List.set_cons_zero]
  refine wpQuiet_nil ?_
  refine plan_step rfl ?_
  go_wp2_with (go_at_call 76; (with_reducible refine Calls.mono (HC.out.2.2.2.2.1 _) ?_); rintro e w3 ⟨A3, c3, rfl, ho3, hb3⟩; have hcn := scontains_any w3 L A3 c3 ho3.sees HC.out.2.2.2.2.2.1 _ HC.out.2.2.2.2.2.2; have H3 := Lib.hid (And.intro (below_chain H2.out hb3) hcn); clear hb3 ho3 hcn)
  refine ⟨rfl, H3.out.1, ?_⟩
  refine plan_step rfl ?_
  go_wp2_with (go_at_call 113; (refine Calls.mono H3.out.2 ?_); rintro e w4 ⟨rfl, hb4⟩; have H4 := Lib.hid (below_chain H3.out.1 hb4); clear hb4)
  refine ⟨rfl, H4.out, ?_⟩
  iterate 2 (refine plan_take rfl ?_; go_big_quiet_step (fail); refine wpQuiet_nil ?_)
  refine plan_nil ?_
  go_wp2_with fail
  go_ret
  exact ⟨rfl, below_chain HC.out.1 H4.out⟩
end Go.Proofs.Ytfhaebaegkpkhaa.Tl

set_option linter.unusedVariables false
set_option linter.unusedSimpArgs false
namespace Go.Proofs.Ytfhaebaegkpkhaa.Tl
open Go.RowKit OwnS Byt Cfg Stp Pln QTail RevL Rf12 Ten
attribute [local go_sem ↓] Kit.execOp_call_slot
attribute [local go_sem] Kit.callSlot_func
def keyV (PL : Nat) (l a : Int) : Int := 12 + 2 * (l * (PL : Int) + a)
theorem keyV_ref (PL : Nat) (l a : Int) : 12 + 2 * l * (PL : Int) + 2 * a = keyV PL l a := by
  unfold keyV
  rw [Int.mul_add, Int.mul_assoc, Int.add_assoc]
def rtab (k : Int) : List Int := match k with
  | 1 => [0]
  | 2 => [1]
  | 3 => [2, 3]
  | 4 => [2, 4]
  | 5 => [2, 5]
  | 6 => [3]
  | 7 => [4]
  | 8 => [5]
  | 10 => [7]
  | 12 => [6, 10]
  | 13 => [1, 10]
  | 14 => [1]
  | 15 => [2, 8]
  | 16 => [8]
  | 17 => [2, 9]
  | 18 => [8, 9]
  | 19 => [8, 10]
  | 20 => [1, 10]
  | 21 => [1]
  | 22 => [2, 11]
  | 23 => [11, 0]
  | _ => []
def wtab (k : Int) : Int := match k with
  | 1 => 1
  | 2 => 2
  | 3 => 3
  | 4 => 4
  | 5 => 5
  | 6 => 3
  | 9 => 7
  | 10 => 7
  | 11 => 6
  | 12 => 10
  | 13 => 1
  | 14 => 2
  | 15 => 8
  | 16 => 8
  | 17 => 9
  | 18 => 8
  | 19 => 10
  | 20 => 1
  | 21 => 2
  | 22 => 11
  | 23 => 0
  | _ => 0
def keysL (PL : Nat) (l : Int) (n : Nat) : List Int := (List.range n).map fun a : Nat => keyV PL l (a : Int) + 1
theorem keysL_succ (PL : Nat) (l : Int) (n : Nat) : keysL PL l (n + 1) = keysL PL l n ++ [keyV PL l (n : Int) + 1] := by
  unfold keysL
  rw [List.range_succ, List.map_append]
  rfl
theorem keysL_length (PL : Nat) (l : Int) (n : Nat) : (keysL PL l n).length = n := by simp [keysL]
/-- The cells that a step reads. -/
def readsL (PL : Nat) (s : Stp.Stp) : List Int := if s.kind = 9 then [3, keyV PL s.layer s.row, 7] else if s.kind = 11 then [7, 6] ++ keysL PL s.layer (s.pos.toNat + 1) else rtab s.kind
/-- The cell that a step writes. -/
def writesV (PL : Nat) (s : Stp.Stp) : Int := if s.kind = 7 then keyV PL s.layer s.pos else if s.kind = 8 then keyV PL s.layer s.pos + 1 else wtab s.kind
/-- What is so of all steps of a place. -/
structure StpOk (s : Stp.Stp) (at_ : Nat) : Prop where
  kind : 1 ≤ s.kind ∧ s.kind ≤ 23
  pos : s.pos = (at_ : Int)
  layer : 0 ≤ s.layer ∧ s.layer ≤ 4
  row : 0 ≤ s.row ∧ s.row ≤ 512
theorem mem_rows {s x : Stp.Stp} {k : Int} {n : Nat} (h : x ∈ rowsL s k n) : ∃ r, r < n ∧ x = { s with kind := k, row := (r : Int) } := by
  unfold rowsL at h
  obtain ⟨r, hr, rfl⟩ := List.mem_map.1 h
  exact ⟨r, List.mem_range.1 hr, rfl⟩
theorem mem_ones {s x : Stp.Stp} {ks : List Int} (h : x ∈ onesL s ks) : ∃ k ∈ ks, x = { s with kind := k } := by
  unfold onesL at h
  obtain ⟨k, hk, rfl⟩ := List.mem_map.1 h
  exact ⟨k, hk, rfl⟩
theorem ok_rows {s x : Stp.Stp} {at_ : Nat} {k : Int} {n : Nat} (h : x ∈ rowsL s k n) (hk : 1 ≤ k ∧ k ≤ 23) (hp : s.pos = (at_ : Int)) (hl : 0 ≤ s.layer ∧ s.layer ≤ 4) (hn : n ≤ 512) : StpOk x at_ := by
  obtain ⟨r, hr, rfl⟩ := mem_rows h
  exact ⟨hk, hp, hl, by simp only; omega⟩
theorem ok_ones {s x : Stp.Stp} {at_ : Nat} {ks : List Int} (h : x ∈ onesL s ks) (hk : ∀ k ∈ ks, 1 ≤ k ∧ k ≤ 23) (hp : s.pos = (at_ : Int)) (hl : 0 ≤ s.layer ∧ s.layer ≤ 4) (hr : 0 ≤ s.row ∧ s.row ≤ 512) : StpOk x at_ := by
  obtain ⟨k, hk', rfl⟩ := mem_ones h
  exact ⟨hk k hk', hp, hl, hr⟩
theorem ok_place {p : Pln} {at_ : Nat} {x : Stp.Stp} (b : p.vocab ≤ 512 ∧ p.dim ≤ 64 ∧ p.heads ≤ 8 ∧ p.layers ≤ 4 ∧ p.hidden ≤ 64) (hat : at_ ≤ 64) (h : x ∈ Stp.placeL p at_) : StpOk x at_ := by
  obtain ⟨b1, b2, b3, b4, b5⟩ := b
  unfold Stp.placeL at h
  simp only [List.mem_append] at h
  have z : (0 : Int) ≤ 0 ∧ (0 : Int) ≤ 512 := by omega
  rcases h with (((h | h) | h) | h) | h
  · exact ok_ones h (by decide) rfl (by simp) z
  · unfold layersL at h
    obtain ⟨i, hi, h⟩ := List.mem_flatMap.1 h
    have hi' := List.mem_range.1 hi
    have hl : (0 : Int) ≤ (i : Int) ∧ (i : Int) ≤ 4 := by omega
    unfold Stp.layerL at h
    simp only [List.mem_append] at h
    rcases h with ((((((((((((h | h) | h) | h) | h) | h) | h) | h) | h) | h) | h) | h) | h) | h
    · exact ok_ones h (by decide) rfl hl z
    · exact ok_rows h (by decide) rfl hl (by omega)
    · exact ok_rows h (by decide) rfl hl (by omega)
    · exact ok_rows h (by decide) rfl hl (by omega)
    · exact ok_ones h (by decide) rfl hl z
    · unfold headsL at h
      obtain ⟨hd, -, h⟩ := List.mem_flatMap.1 h
      simp only [List.mem_append] at h
      rcases h with h | h
      · exact ok_rows h (by decide) rfl hl (by omega)
      · exact ok_ones h (by decide) rfl hl z
    · exact ok_rows h (by decide) rfl hl (by omega)
    · exact ok_ones h (by decide) rfl hl z
    · exact ok_rows h (by decide) rfl hl (by omega)
    · exact ok_ones h (by decide) rfl hl z
    · exact ok_rows h (by decide) rfl hl (by omega)
    · exact ok_ones h (by decide) rfl hl z
    · exact ok_rows h (by decide) rfl hl (by omega)
    · exact ok_ones h (by decide) rfl hl z
  · exact ok_ones h (by decide) rfl (by simp) z
  · exact ok_rows h (by decide) rfl (by simp) (by omega)
  · split at h
    · exact ok_ones h (by decide) rfl (by simp) z
    · cases h
theorem key_bound {PL : Nat} {l : Int} (hPL : PL ≤ 64) (hl : 0 ≤ l ∧ l ≤ 4) : 0 ≤ l * (PL : Int) ∧ l * (PL : Int) ≤ 256 ∧ 0 ≤ 2 * l * (PL : Int) ∧ 2 * l * (PL : Int) ≤ 512 := by
  have h1 : 0 ≤ l * (PL : Int) := Int.mul_nonneg hl.1 (Int.natCast_nonneg _)
  have h2 : l * (PL : Int) ≤ 4 * 64 := Int.mul_le_mul hl.2 (by omega) (Int.natCast_nonneg _) (by omega)
  have h3 : 2 * l * (PL : Int) = 2 * (l * (PL : Int)) := Int.mul_assoc _ _ _
  omega
theorem key_any (W : World) (p : Pln) (ctx K : Int) (h : Okp p ctx K) (l a : Int) (hl : 0 ≤ l ∧ l ≤ 4) (ha : 0 ≤ a ∧ a ≤ 512) : Calls Try.prog 86 #[.agg (planC p ctx K).toArray, .int .i64 l, .int .i64 a] W fun e w' => e = .returned (.int .i64 (keyV p.places l a)) ∧ Below W.heap.size W w' := by
  have hp := fun w => places_any w p ctx K h
  obtain ⟨f0, f1, f2⟩ := h.facts
  have hN : p.places ≤ 64 := by unfold Pln.places; omega
  obtain ⟨w2, hw2⟩ : ∃ w2, w2 = W.alloc (.cells (planC p ctx K).toArray 62) := ⟨_, rfl⟩
  have hb2 : Below W.heap.size W w2 := by rw [hw2]; exact (Below.refl _ _).alloc (Nat.le_refl _) _
  have hpl : w2.heap[W.heap.size]? = some (.cells (planC p ctx K).toArray 62 (0, 0)) := by rw [hw2]; exact heap_alloc_new W _
  obtain ⟨N, hNN⟩ : ∃ N, N = p.places := ⟨_, rfl⟩
  rw [← hNN] at hp hN ⊢
  obtain ⟨k1, k2, -, -⟩ := key_bound hN hl
  obtain ⟨m, hm⟩ : ∃ m, l * (N : Int) = m := ⟨_, rfl⟩
  have hv : keyV N l a = 12 + 2 * (m + a) := by unfold keyV; rw [hm]
  rw [hm] at k1 k2
  obtain ⟨a1, a2⟩ := ha
  have HW := Lib.hid hw2
  have HC := Lib.hid (And.intro hb2 (And.intro hp (And.intro hpl hv)))
  clear hw2 hb2 hp hpl h f0 f1 f2 hNN hv hl hN
  go_enter Try.func86, Try.ntmps86
  go_upto_region 1 with fail
  rw [← HW.out]
  go_wp2_with (first | (refine wpList_load_mid rfl 62 (.tmp 3) rfl W.heap.size 0 rfl (planC p ctx K) _ (rangeAt_whole HC.out.2.2.1) Try.underlying62 rfl plan_size ?_; simp only [Act.put, List.setIfInBounds_toArray, List.set_cons_succ, List.set_cons_zero]) | (go_at_call 30; (with_reducible refine Calls.mono (HC.out.2.1 w2) ?_); rintro e w3 ⟨rfl, hb3⟩; have HB := Lib.hid hb3; clear hb3))
  go_ret
  rw [HC.out.2.2.2]
  exact ⟨rfl, below_chain HC.out.1 HB.out⟩
theorem rkey_any (W : World) (p : Pln) (h : Small p) (l a : Int) (hl : 0 ≤ l ∧ l ≤ 4) (ha : 0 ≤ a ∧ a ≤ 512) : Calls Try.prog 87 #[.agg (refC p).toArray, .int .i64 l, .int .i64 a] W fun e w' => e = .returned (.int .i64 (keyV p.places l a)) ∧ Below W.heap.size W w' := by
  have hp := fun w => rplaces_any w p h
  have hN := h.places.2
  obtain ⟨w2, hw2⟩ : ∃ w2, w2 = W.alloc (.cells (refC p).toArray 84) := ⟨_, rfl⟩
  have hb2 : Below W.heap.size W w2 := by rw [hw2]; exact (Below.refl _ _).alloc (Nat.le_refl _) _
  have hpl : w2.heap[W.heap.size]? = some (.cells (refC p).toArray 84 (0, 0)) := by rw [hw2]; exact heap_alloc_new W _
  obtain ⟨N, hNN⟩ : ∃ N, N = p.places := ⟨_, rfl⟩
  rw [← hNN] at hp hN ⊢
  obtain ⟨-, -, k1, k2⟩ := key_bound hN hl
  obtain ⟨m, hm⟩ : ∃ m, 2 * l * (N : Int) = m := ⟨_, rfl⟩
  have hv : keyV N l a = 12 + m + 2 * a := by rw [← keyV_ref, hm]
  rw [hm] at k1 k2
  obtain ⟨a1, a2⟩ := ha
  obtain ⟨l1, l2⟩ := hl
  have HW := Lib.hid hw2
  have HC := Lib.hid (And.intro hb2 (And.intro hp (And.intro hpl hv)))
  clear hw2 hb2 hp hpl h hNN hv hN
  go_enter Try.func87, Try.ntmps87
  go_upto_region 1 with fail
  rw [← HW.out]
  go_wp2_with (first | (refine wpList_load_mid rfl 84 (.tmp 3) rfl W.heap.size 0 rfl (refC p) _ (rangeAt_whole HC.out.2.2.1) Try.underlying84 rfl ref_size ?_; simp only [Act.put, List.setIfInBounds_toArray, List.set_cons_succ, List.set_cons_zero]) | (go_at_call 35; (with_reducible refine Calls.mono (HC.out.2.1 w2) ?_); rintro e w3 ⟨rfl, hb3⟩; have HB := Lib.hid hb3; clear hb3))
  go_ret
  rw [HC.out.2.2.2]
  exact ⟨rfl, below_chain HC.out.1 HB.out⟩
end Go.Proofs.Ytfhaebaegkpkhaa.Tl
