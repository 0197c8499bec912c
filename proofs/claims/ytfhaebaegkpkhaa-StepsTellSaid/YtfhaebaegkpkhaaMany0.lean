import Derived.Test.YtfhaebaegkpkhaaSeq
namespace Go.Proofs.Ytfhaebaegkpkhaa.Cfg
open Go.RowKit Go.Shelf
attribute [local go_sem] Oper.semAt_some
attribute [local go_sem ↓] Kit.execOp_call_slot
attribute [local go_sem] Kit.callSlot_func

def rowsSum (l : List Blk) : Int := (l.map (·.rows)).sum
theorem rowsSum_snoc (l : List Blk) (b : Blk) : rowsSum (l ++ [b]) = rowsSum l + b.rows := by simp [rowsSum]

theorem range_of_chk {c : C6} (h : c.chk = 0) : c.range = true := by
  unfold C6.chk at h
  cases hr : c.range with
  | true => rfl
  | false => rw [hr] at h; simp at h
theorem bounds_of {c : C6} (h : c.chk = 0) : (1 ≤ c.v ∧ c.v ≤ 512) ∧ (2 ≤ c.d ∧ c.d ≤ 64) ∧ (1 ≤ c.h ∧ c.h ≤ 8) ∧ (1 ≤ c.l ∧ c.l ≤ 4) ∧ (1 ≤ c.c ∧ c.c ≤ 64) ∧ (1 ≤ c.x ∧ c.x ≤ 64) := by
  have hr := range_of_chk h
  simp only [C6.range, Bool.and_eq_true] at hr
  exact ⟨chkB_of hr.1, chkB_of hr.2.1, chkB_of hr.2.2.1, chkB_of hr.2.2.2.1, chkB_of hr.2.2.2.2.1, chkB_of hr.2.2.2.2.2⟩

theorem mem_layer {c : C6} {i : Int} {b : Blk} (h : b ∈ layerBlks c i) : b.rows = 1 ∨ b.rows = c.d ∨ b.rows = c.x := by
  simp [layerBlks, mk] at h
  rcases h with rfl | rfl | rfl | rfl | rfl | rfl | rfl | rfl | rfl <;> simp
theorem mem_blks {c : C6} {b : Blk} (h : b ∈ blks c) : b.rows = 1 ∨ b.rows = c.d ∨ b.rows = c.x ∨ b.rows = c.v := by
  simp only [blks, List.mem_append, List.map_cons, List.map_nil, List.mem_singleton, layersBlks, List.mem_flatMap] at h
  rcases h with ((rfl | ⟨i, _, h⟩) | rfl) | rfl
  · simp [mk]
  · rcases mem_layer h with h | h | h <;> simp [h]
  · simp
  · simp [mk]
theorem rows_bound {c : C6} (h : c.chk = 0) {b : Blk} (hb : b ∈ blks c) : 1 ≤ b.rows ∧ b.rows ≤ 512 := by
  have := bounds_of h
  rcases mem_blks hb with e | e | e | e <;> rw [e] <;> omega
theorem blks_length {c : C6} : (blks c).length = 3 + c.l.toNat * 9 := by
  simp only [blks, List.length_append, List.length_map, List.length_cons, List.length_nil, layersBlks_length]; omega
theorem rowsSum_bound {l : List Blk} {m : Int} (hm : 0 ≤ m) (h : ∀ b ∈ l, 0 ≤ b.rows ∧ b.rows ≤ m) : 0 ≤ rowsSum l ∧ rowsSum l ≤ l.length * m := by
  induction l with
  | nil => simp [rowsSum]
  | cons b l ih =>
    have h1 := ih (fun x hx => h x (by simp [hx]))
    have h2 := h b (by simp)
    simp only [rowsSum, List.map_cons, List.sum_cons, List.length_cons] at h1 ⊢
    push_cast
    rw [Int.add_mul]
    omega

theorem cf_all {W : World} {C : Nat} {c : C6} (h : CfAt W C c) : W.cell? ⟨C, 0, none⟩ = some (.int .i64 c.v) ∧ W.cell? ⟨C, 1, none⟩ = some (.int .i64 c.d) ∧ W.cell? ⟨C, 2, none⟩ = some (.int .i64 c.h) ∧ W.cell? ⟨C, 3, none⟩ = some (.int .i64 c.l) ∧ W.cell? ⟨C, 4, none⟩ = some (.int .i64 c.c) ∧ W.cell? ⟨C, 5, none⟩ = some (.int .i64 c.x) := by
  unfold CfAt at h
  refine ⟨?_, ?_, ?_, ?_, ?_, ?_⟩ <;> (rw [cell_of_row W C _ _ _ _ h]; rfl)

theorem boxed_inj {W : World} {q : Nat} {t : TypeId} {v v' : Value} (h : Boxed W q t v) (h' : Boxed W q t v') : v = v' := by
  have := h'.cell
  rw [h.cell] at this
  exact Option.some.inj this

def rowsW (l : List Blk) : Int := l.foldl (fun s b => wrap64 (s + b.rows)) 1
theorem rowsW_snoc (l : List Blk) (b : Blk) : rowsW (l ++ [b]) = wrap64 (rowsW l + b.rows) := by simp [rowsW]
theorem rowsW_eq (l : List Blk) (hl : l.length ≤ 1000) (h : ∀ b ∈ l, 1 ≤ b.rows ∧ b.rows ≤ 512) : rowsW l = 1 + rowsSum l := by
  have key : ∀ (m l : List Blk) (s : Int), (∀ b ∈ l, 1 ≤ b.rows ∧ b.rows ≤ 512) → 0 ≤ s → s + l.length * 512 ≤ 1000000 → l.foldl (fun s b => wrap64 (s + b.rows)) s = s + rowsSum l := by
    intro m l
    induction l with
    | nil => intro s _ _ _; simp [rowsSum]
    | cons b l ih =>
      intro s hb h0 h1
      have hb1 := hb b (by simp)
      simp only [List.length_cons] at h1
      push_cast at h1
      have e : wrap64 (s + b.rows) = s + b.rows := by unfold wrap64; omega
      simp only [List.foldl_cons, e]
      rw [ih _ (fun x hx => hb x (by simp [hx])) (by omega) (by omega)]
      simp [rowsSum]
      omega
  exact key [] l 1 h (by omega) (by omega)

end Go.Proofs.Ytfhaebaegkpkhaa.Cfg
