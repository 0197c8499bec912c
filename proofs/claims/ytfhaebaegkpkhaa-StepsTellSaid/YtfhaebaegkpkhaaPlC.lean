/- steps.layer, steps.place: what lies in their slots, whatever the order. -/
import Derived.Test.YtfhaebaegkpkhaaPlB
import Derived.Test.YtfhaebaegkpkhaaMono2
import Derived.Great.BuildSlice
import Derived.Great.FillDense
set_option linter.unusedVariables false
set_option linter.unusedSimpArgs false
namespace Go.Proofs.Ytfhaebaegkpkhaa.Pln
open Go.RowKit OwnS Byt Cfg Stp Mono QTail
attribute [local go_sem ↓] Kit.execOp_call_slot
attribute [local go_sem] Kit.callSlot_func
def MPred.ints (ks : List Int) : MPred := ⟨fun w v => Ints w v ks, fun w w' v h hb => Ints.new h hb⟩
def stepsP (B : Nat) (l : List Stp) (w : World) (v : Value) : Prop := ∃ A c, v = .slice A l.length c ∧ Owns w B 5 v l.length (flatS l)
theorem stepsP.new {B : Nat} {l : List Stp} {w w' : World} {v : Value} (h : stepsP B l w v) (hb : Below w.heap.size w w') : stepsP B l w' v := by
  obtain ⟨A, c, h1, h2⟩ := h
  exact ⟨A, c, h1, h2.same (fun b hb' => hb.block b (h2.lt b hb').2) hb.size⟩
def MPred.steps (B : Nat) (l : List Stp) : MPred := ⟨stepsP B l, fun w w' v h hb => h.new hb⟩
def MPred.sts (ls : List (List Stp)) : MPred := ⟨fun w v => ∃ hs, StsAt w v hs ls, fun w w' v h hb => by obtain ⟨hs, h1⟩ := h; exact ⟨hs, h1.new hb⟩⟩
theorem SlcPost.m {B : Nat} {W w' : World} {l : List Stp} {e : Ending} (h : SlcPost W l e w') (hB : B ≤ W.heap.size) : ∃ v, e = .returned v ∧ stepsP B l w' v ∧ Below W.heap.size W w' := by
  obtain ⟨A, c, rfl, ho, hb⟩ := h
  exact ⟨_, rfl, ⟨A, c, rfl, ho.mono hB⟩, hb⟩
set_option maxRecDepth 100000 in
/-- A literal slice of one-celled values. -/
theorem run_build_cells (w : World) (t e : TypeId) (z : Value) (b : Nat) (hu : Try.prog.underlying t = some (.slice e)) (hi : ElemInfo Try.prog e z 1 b) (vs : List Value) (hv : ∀ v ∈ vs, v.cells = #[v]) (h0 : 0 < vs.length) (hmax : vs.length ≤ 1000) (n : Nat) (hn : n = vs.length) (parts : Array (Nat × Value)) (hp : parts.toList = (vs.zipIdx 0).map fun x => (x.2, x.1)) :
    (Instr.buildSlice t n parts).run Try.prog w = .ok (.slice (some ⟨w.heap.size, 0, none⟩) n n) (w.alloc (.cells vs.toArray e)) := by
  subst hn
  obtain ⟨i, hi0, hz, hs, -, hzs, -⟩ := hi
  refine run_buildSlice w t e vs.length parts vs.toArray i z hu hi0 hz (by rw [hs]; omega) (by rw [hs]; omega) ?_
  rw [hs, hp]
  have := Great.fill_whole (s := 1) (by omega) vs ((Array.range (vs.length * 1)).map (z.cells[· % z.cells.size]!)) (fun v hv' => by rw [hv v hv']; rfl) (by simp)
  rw [this]
  congr 2
  clear this hp h0 hmax
  induction vs with
  | nil => rfl
  | cons v r ih =>
    rw [List.flatMap_cons, hv v (by simp), ih (fun x hx => hv x (by simp [hx]))]
    rfl
theorem infoSS : ElemInfo Try.prog 154 (.slice none 0 0) 1 24 := elemInfo (by kernel_rfl) rfl rfl
theorem intsV_cells (ks : List Int) : ∀ v ∈ intsV ks, v.cells = #[v] := fun v hv => by
  obtain ⟨n, -, rfl⟩ := List.mem_map.1 hv
  rfl
/-- A literal slice of ints. -/
theorem run_build_ints (w : World) (ks : List Int) (h0 : 0 < ks.length) (hmax : ks.length ≤ 1000) (n : Nat) (hn : n = ks.length) (parts : Array (Nat × Value)) (hp : parts.toList = ((intsV ks).zipIdx 0).map fun x => (x.2, x.1)) :
    ∃ v, (Instr.buildSlice 26 n parts).run Try.prog w = .ok v (w.alloc (.cells (intsV ks).toArray 3)) ∧ Ints (w.alloc (.cells (intsV ks).toArray 3)) v ks := by
  have hl := intsV_length ks
  refine ⟨_, run_build_cells w 26 3 (.int .i64 0) 8 Try.underlying26 infoI (intsV ks) (intsV_cells ks) (by omega) (by omega) n (by omega) parts hp, ?_⟩
  subst hn
  exact (Owns.whole (base := 0) (heap_alloc_new w _) (Nat.zero_le _) (by omega) (by unfold maxLen; omega)).sees
/-- A literal slice of slices of steps. -/
theorem run_build_sts (w : World) (B : Nat) (ls : List (List Stp)) (vs : List Value) (hl : vs.length = ls.length) (hv : ∀ (i : Nat) v l, vs[i]? = some v → ls[i]? = some l → stepsP B l w v) (h0 : 0 < vs.length) (hmax : vs.length ≤ 1000) (n : Nat) (hn : n = vs.length) (parts : Array (Nat × Value)) (hp : parts.toList = (vs.zipIdx 0).map fun x => (x.2, x.1)) :
    ∃ v, (Instr.buildSlice 208 n parts).run Try.prog w = .ok v (w.alloc (.cells vs.toArray 154)) ∧ ∃ hs, StsAt (w.alloc (.cells vs.toArray 154)) v hs ls := by
  have hc : ∀ v ∈ vs, v.cells = #[v] := fun v hv' => by
    obtain ⟨i, hi, rfl⟩ := List.getElem_of_mem hv'
    obtain ⟨A, c, e, -⟩ := hv i vs[i] ls[i] (List.getElem?_eq_getElem hi) (List.getElem?_eq_getElem (by omega))
    rw [e]
    rfl
  refine ⟨_, run_build_cells w 208 154 (.slice none 0 0) 24 Try.underlying208 infoSS vs hc h0 hmax n hn parts hp, vs, ?_, ?_⟩
  · subst hn
    rw [hl]
    have := (Owns.whole (base := 0) (size := 1) (k := vs.length) (heap_alloc_new w (.cells vs.toArray 154)) (Nat.zero_le _) (by omega) (by unfold maxLen; omega)).sees
    rwa [hl] at this
  · intro i l hil
    have hi : i < vs.length := by have := (List.getElem?_eq_some_iff.1 hil).1; omega
    obtain ⟨A, c, e, h2⟩ := hv i vs[i] l (List.getElem?_eq_getElem hi) hil
    exact ⟨vs[i], List.getElem?_eq_getElem hi, h2.sees.new ((Below.refl _ _).alloc (Nat.le_refl _) _)⟩
theorem step_size : (Try.prog.info? 69).map (·.size) = some 5 := by kernel_rfl
theorem load_step {w : World} {g : Nat} {s : Stp} (h : w.heap[g]? = some (.cells s.cells.toArray 69 (0, 0))) : (loadVar 69 ⟨g, 0, none⟩).run Try.prog w = .ok s.val w :=
  run_loadVar_row w g 69 69 s.cells.toArray (0, 0) _ h Try.underlying69 (by rfl) step_size
theorem load_int {w : World} {p : Addr} {n : Int} (h : w.cell? p = some (.int .i64 n)) : (loadVar 3 p).run Try.prog w = .ok (.int .i64 n) w := by
  simp [loadVar, isAgg, Sem.run_bind, run_underlying Try.underlying3 w, go_sem, h]
end Go.Proofs.Ytfhaebaegkpkhaa.Pln
