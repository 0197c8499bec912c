import Derived.Test.YtfhaebaegkpkhaaMany0
namespace Go.Proofs.Ytfhaebaegkpkhaa.Cfg
open Go.RowKit Go.Shelf
attribute [local go_sem] Oper.semAt_some
attribute [local go_sem ↓] Kit.execOp_call_slot
attribute [local go_sem] Kit.callSlot_func

structure P3 where
  kind : Int
  layer : Int
  row : Int

def hit (p : P3) (b : Blk) : Prop := b.kind = p.kind ∧ b.layer = p.layer
instance (p : P3) (b : Blk) : Decidable (hit p b) := by unfold hit; infer_instance
def placeL (p : P3) : List Blk → Int → Int × Int
  | [], _ => (0, 10)
  | b :: l, s => if hit p b then (if p.row < 0 ∨ b.rows ≤ p.row then (0, 10) else (s + p.row, 0)) else placeL p l (s + b.rows)
def C6.place (c : C6) (p : P3) : Int × Int := if c.chk = 0 then placeL p (blks c) 1 else (0, c.chk)

theorem placeL_none (p : P3) (l : List Blk) (s : Int) (h : ∀ b ∈ l, ¬ hit p b) : placeL p l s = (0, 10) := by
  induction l generalizing s with
  | nil => rfl
  | cons b l ih => rw [placeL, if_neg (h b (by simp)), ih _ (fun x hx => h x (by simp [hx]))]
theorem placeL_hit (p : P3) (ini : List Blk) (last : Blk) (l : List Blk) (s : Int) (h : ∀ b ∈ ini, ¬ hit p b) (hl : hit p last) :
    placeL p (ini ++ [last] ++ l) s = if p.row < 0 ∨ last.rows ≤ p.row then (0, 10) else (s + rowsSum ini + p.row, 0) := by
  induction ini generalizing s with
  | nil => simp [placeL, hl, rowsSum]
  | cons b ini ih =>
    simp only [List.cons_append, placeL]
    rw [if_neg (h b (by simp)), ih _ (fun x hx => h x (by simp [hx]))]
    simp [rowsSum, Int.add_assoc]

theorem place_none (c : C6) (p : P3) (w : World) (h : c.chk ≠ 0) :
    Calls Try.prog 14 #[.agg #[.int .i64 c.v, .int .i64 c.d, .int .i64 c.h, .int .i64 c.l, .int .i64 c.c, .int .i64 c.x], .agg #[.int .i64 p.kind, .int .i64 p.layer, .int .i64 p.row]] w fun e w' =>
      e = .returned (.tuple #[.int .i64 0, .int .i64 c.chk]) ∧ Below w.heap.size w w' := by
  have hne : (c.chk != 0) = true := by simpa using h
  obtain ⟨w4, hw4⟩ : ∃ w4, w4 = (((w.alloc (.cells #[.int .i64 c.v, .int .i64 c.d, .int .i64 c.h, .int .i64 c.l, .int .i64 c.c, .int .i64 c.x] 23)).alloc (.cells #[.int .i64 p.kind, .int .i64 p.layer, .int .i64 p.row] 33)).alloc (.cells #[.int .i64 0] 3)).alloc (.cells #[.int .i64 0] 35) := ⟨_, rfl⟩
  have hb4 : Below w.heap.size w w4 := by rw [hw4]; exact ((((Below.refl _ _).alloc (Nat.le_refl _) _).alloc (by simp) _).alloc (by simp only [World.size_alloc]; omega) _).alloc (by simp only [World.size_alloc]; omega) _
  have hs4 : w4.heap.size = w.heap.size + 4 := by rw [hw4]; simp
  have h3 : Boxed w4 (w.heap.size + 3) 35 (.int .i64 0) := by
    rw [hw4]
    have := Boxed.new (((w.alloc (.cells #[.int .i64 c.v, .int .i64 c.d, .int .i64 c.h, .int .i64 c.l, .int .i64 c.c, .int .i64 c.x] 23)).alloc (.cells #[.int .i64 p.kind, .int .i64 p.layer, .int .i64 p.row] 33)).alloc (.cells #[.int .i64 0] 3)) 35 (.int .i64 0)
    simpa using this
  have h2 : Boxed w4 (w.heap.size + 2) 3 (.int .i64 0) := by
    rw [hw4]
    have := (Boxed.new ((w.alloc (.cells #[.int .i64 c.v, .int .i64 c.d, .int .i64 c.h, .int .i64 c.l, .int .i64 c.c, .int .i64 c.x] 23)).alloc (.cells #[.int .i64 p.kind, .int .i64 p.layer, .int .i64 p.row] 33)) 3 (.int .i64 0)).alloc (.cells #[.int .i64 0] 35)
    simpa using this
  have HW := Lib.hid hw4
  have H4 := Lib.hid (And.intro hb4 (And.intro hs4 (And.intro h2 h3)))
  clear hw4 hb4 hs4 h2 h3 h
  go_enter Try.func14, Try.ntmps14
  go_wp2_with fail
  rw [← HW.out]
  with_reducible refine Calls.mono (check_any c _) ?_
  rintro e w5 ⟨rfl, hb⟩
  have k2 : Boxed w5 (w.heap.size + 2) 3 (.int .i64 0) := (hb.block _ (by have := H4.out.2.1; omega)).trans H4.out.2.2.1
  have k3 : Boxed w5 (w.heap.size + 3) 35 (.int .i64 0) := (hb.block _ (by have := H4.out.2.1; omega)).trans H4.out.2.2.2
  have hc2 := k2.cell
  have hc3 := k3.cell
  have hf2 := k2.frozen
  have hf3 := k3.frozen
  have HB1 := Lib.hid (And.intro hb (And.intro k2 k3))
  clear hb k2 k3
  go_wp2_with fail
  refine bodyPost_ret (v := .tuple #[.int .i64 0, .int .i64 c.chk]) (by simp [results, Try.f14, go_sem, hc2, hc3]) rfl ⟨rfl, ?_⟩
  exact ((H4.out.1.trans (HB1.out.1.mono (by have := H4.out.2.1; omega))).setCell (by simp; omega) _).setCell (by simp; omega) _

structure PlaceI (p : P3) (w : World) (N m : Nat) (pre : List Blk) (W : World) : Prop where
  no : ∀ b ∈ pre, ¬ hit p b
  at_ : Boxed W N 3 (.int .i64 (rowsW pre))
  part : W.heap[w.heap.size + 1]? = some (.cells #[.int .i64 p.kind, .int .i64 p.layer, .int .i64 p.row] 33 (0, 0))
  r2 : Boxed W (w.heap.size + 1 + 1) 3 (.int .i64 0)
  r3 : Boxed W (w.heap.size + 1 + 1 + 1) 35 (.int .i64 0)
  below : Below w.heap.size w W
  size : m ≤ W.heap.size
structure PlaceX (p : P3) (w : World) (cc : Code) (pre : List Blk) (W : World) : Prop where
  ret : cc = .ret
  ex : ∃ ini last, pre = ini ++ [last] ∧ (∀ b ∈ ini, ¬ hit p b) ∧ hit p last ∧ Boxed W (w.heap.size + 1 + 1) 3 (.int .i64 (if p.row < 0 ∨ last.rows ≤ p.row then 0 else wrap64 (rowsW ini + p.row))) ∧
    Boxed W (w.heap.size + 1 + 1 + 1) 35 (.int .i64 (if p.row < 0 ∨ last.rows ≤ p.row then 10 else 0))
  below : Below w.heap.size w W
theorem cells_own {X Y : World} {row : Option Nat} {B : Nat} {cs : Array Value} {t : TypeId} {fr : Nat × Nat} (h : X.heap[B]? = some (.cells cs t fr)) (hg : X.grownBy Y row) (hrow : ∀ r, row = some r → ∃ o : Obj, X.heap[r]? = some o ∧ o.isCells = false) : Y.heap[B]? = some (.cells cs t fr) := by
  refine (hg.block B (Array.getElem?_eq_some_iff.1 h).1 (fun e => ?_)).trans h
  obtain ⟨o, ho, hc⟩ := hrow B e.symm
  rw [h] at ho; cases ho; cases hc
theorem placeI_own {p : P3} {w : World} {N m B : Nat} (hB : w.heap.size ≤ B) : OwnFrom B (fun pre W => PlaceI p w N m pre W) := by
  intro pre X Y row h hg hr
  have hr' : ∀ r, row = some r → ∃ o : Obj, X.heap[r]? = some o ∧ o.isCells = false := fun r e => (hr r e).2
  exact ⟨h.no, cells_own h.at_ hg hr', cells_own h.part hg hr', cells_own h.r2 hg hr', cells_own h.r3 hg hr', h.below.grown hg h.below.size (fun k e => Nat.le_trans hB (hr k e).1), Nat.le_trans h.size hg.size⟩
theorem placeX_own {p : P3} {w : World} {B : Nat} (hB : w.heap.size ≤ B) (cc : Code) : OwnFrom B (fun pre W => PlaceX p w cc pre W) := by
  intro pre X Y row h hg hr
  have hr' : ∀ r, row = some r → ∃ o : Obj, X.heap[r]? = some o ∧ o.isCells = false := fun r e => (hr r e).2
  obtain ⟨ini, last, e, a, b, c, d⟩ := h.ex
  exact ⟨h.ret, ⟨ini, last, e, a, b, cells_own c hg hr', cells_own d hg hr'⟩, h.below.grown hg h.below.size (fun k e => Nat.le_trans hB (hr k e).1)⟩

theorem PlaceI.step {p : P3} {w W : World} {N m : Nat} {pre : List Blk} {x : Blk} (h : PlaceI p w N m pre W) (hN : w.heap.size + 4 ≤ N) (hx : ¬ hit p x) :
    PlaceI p w N m (pre ++ [x]) (W.setCell ⟨N, 0, none⟩ (.int .i64 (wrap64 (rowsW pre + x.rows)))) := by
  refine ⟨?_, by rw [rowsW_snoc]; exact h.at_.set _, (Below.heap_setCell _ _ _ _ (by simp; omega)).trans h.part, h.r2.other (by omega) _, h.r3.other (by omega) _, h.below.setCell (by simp; omega) _, by simpa [World.setCell] using h.size⟩
  intro b hb
  rcases List.mem_append.1 hb with hb | hb
  · exact h.no b hb
  · simp at hb; subst hb; exact hx
theorem PlaceI.left {p : P3} {w W : World} {N m : Nat} {pre : List Blk} {x : Blk} (h : PlaceI p w N m pre W) (hx : hit p x) {a b : Int}
    (ha : a = if p.row < 0 ∨ x.rows ≤ p.row then 0 else wrap64 (rowsW pre + p.row)) (hb : b = if p.row < 0 ∨ x.rows ≤ p.row then 10 else 0) :
    PlaceX p w .ret (pre ++ [x]) ((W.setCell ⟨w.heap.size + 1 + 1, 0, none⟩ (.int .i64 a)).setCell ⟨w.heap.size + 1 + 1 + 1, 0, none⟩ (.int .i64 b)) := by
  subst ha hb
  refine ⟨rfl, ⟨pre, x, rfl, h.no, hx, (h.r2.set _).other (by omega) _, (h.r3.other (by omega) _).set _⟩, (h.below.setCell (by simp; omega) _).setCell (by simp; omega) _⟩

theorem place_some (c : C6) (p : P3) (w : World) (h : c.chk = 0) (hrow : -9223372036854775808 ≤ p.row ∧ p.row ≤ 9223372036854775807) :
    Calls Try.prog 14 #[.agg #[.int .i64 c.v, .int .i64 c.d, .int .i64 c.h, .int .i64 c.l, .int .i64 c.c, .int .i64 c.x], .agg #[.int .i64 p.kind, .int .i64 p.layer, .int .i64 p.row]] w fun e w' =>
      e = .returned (.tuple #[.int .i64 (placeL p (blks c) 1).1, .int .i64 (placeL p (blks c) 1).2]) ∧ Below w.heap.size w w' := by
  obtain ⟨w4, hw4⟩ : ∃ w4, w4 = (((w.alloc (.cells #[.int .i64 c.v, .int .i64 c.d, .int .i64 c.h, .int .i64 c.l, .int .i64 c.c, .int .i64 c.x] 23)).alloc (.cells #[.int .i64 p.kind, .int .i64 p.layer, .int .i64 p.row] 33)).alloc (.cells #[.int .i64 0] 3)).alloc (.cells #[.int .i64 0] 35) := ⟨_, rfl⟩
  have hb4 : Below w.heap.size w w4 := by rw [hw4]; exact ((((Below.refl _ _).alloc (Nat.le_refl _) _).alloc (by simp) _).alloc (by simp only [World.size_alloc]; omega) _).alloc (by simp only [World.size_alloc]; omega) _
  have hs4 : w4.heap.size = w.heap.size + 4 := by rw [hw4]; simp
  have h3 : Boxed w4 (w.heap.size + 3) 35 (.int .i64 0) := by
    rw [hw4]
    have := Boxed.new (((w.alloc (.cells #[.int .i64 c.v, .int .i64 c.d, .int .i64 c.h, .int .i64 c.l, .int .i64 c.c, .int .i64 c.x] 23)).alloc (.cells #[.int .i64 p.kind, .int .i64 p.layer, .int .i64 p.row] 33)).alloc (.cells #[.int .i64 0] 3)) 35 (.int .i64 0)
    simpa using this
  have h2 : Boxed w4 (w.heap.size + 2) 3 (.int .i64 0) := by
    rw [hw4]
    have := (Boxed.new ((w.alloc (.cells #[.int .i64 c.v, .int .i64 c.d, .int .i64 c.h, .int .i64 c.l, .int .i64 c.c, .int .i64 c.x] 23)).alloc (.cells #[.int .i64 p.kind, .int .i64 p.layer, .int .i64 p.row] 33)) 3 (.int .i64 0)).alloc (.cells #[.int .i64 0] 35)
    simpa using this
  have h1 : w4.heap[w.heap.size + 1]? = some (.cells #[.int .i64 p.kind, .int .i64 p.layer, .int .i64 p.row] 33 (0, 0)) := by
    rw [hw4]
    have e : (w.alloc (.cells #[.int .i64 c.v, .int .i64 c.d, .int .i64 c.h, .int .i64 c.l, .int .i64 c.c, .int .i64 c.x] 23)).heap.size = w.heap.size + 1 := by simp
    exact (Below.heap_alloc _ _ _ (by simp)).trans ((Below.heap_alloc _ _ _ (by simp)).trans (by rw [← e]; exact heap_alloc_new _ _))
  have h0 : CfAt w4 w.heap.size c := by
    rw [hw4]
    exact (Below.heap_alloc _ _ _ (by simp; omega)).trans ((Below.heap_alloc _ _ _ (by simp; omega)).trans ((Below.heap_alloc _ _ _ (by simp)).trans (heap_alloc_new _ _)))
  have HW := Lib.hid hw4
  have H4 := Lib.hid (And.intro hb4 (And.intro hs4 (And.intro h2 (And.intro h3 (And.intro h1 h0)))))
  have HC := Lib.hid h
  clear hw4 hb4 hs4 h2 h3 h1 h0 h
  refine (callsIn_wide (n := 9)).1 ?_
  refine callsIn_of_wp_marks Try.func14 rfl trivial ?_ rfl
  simp only [Try.ntmps14, List.size_toArray, List.length_cons, List.length_nil, Nat.reduceAdd, Nat.reduceSub, Array.replicate_succ, Array.replicate_zero, List.push_toArray, List.append_toArray, List.nil_append, List.cons_append]
  gi_wp2_with fail
  refine ⟨trivial, ?_⟩
  rw [← HW.out]
  with_reducible refine CallsIn.mono (callsIn_wide.2 (check_any c _)) ?_
  rintro e w5 ⟨rfl, hb⟩
  have hs := hb.size
  have e4 := H4.out.2.1
  have hb5 : Below w.heap.size w w5 := H4.out.1.trans (hb.mono (by omega))
  have k2 : Boxed w5 (w.heap.size + 2) 3 (.int .i64 0) := (hb.block _ (by omega)).trans H4.out.2.2.1
  have k3 : Boxed w5 (w.heap.size + 3) 35 (.int .i64 0) := (hb.block _ (by omega)).trans H4.out.2.2.2.1
  have k1 : w5.heap[w.heap.size + 1]? = some (.cells #[.int .i64 p.kind, .int .i64 p.layer, .int .i64 p.row] 33 (0, 0)) := (hb.block _ (by omega)).trans H4.out.2.2.2.2.1
  have k0 : CfAt w5 w.heap.size c := (hb.block _ (by omega)).trans H4.out.2.2.2.2.2
  have hsz : w.heap.size + 4 ≤ w5.heap.size := by omega
  have hcells := cf_all (alloc_keep w5 (.cells #[.int .i64 1] 3) k0)
  have H5 := Lib.hid (And.intro hb5 (And.intro k1 (And.intro k2 k3)))
  have hz := HC.out
  clear hb hs e4 hb5 k0 k1 k2 k3
  obtain ⟨hx0, hx1, hx2, hx3, hx4, hx5⟩ := hcells
  obtain ⟨g0, g1, g2, g3, g4, g5⟩ := bounds_of hz
  have HZ := Lib.hid (And.intro g0 (And.intro g1 (And.intro g2 (And.intro g3 (And.intro g4 g5)))))
  clear g0 g1 g2 g3 g4 g5
  gi_wp2_with fail
  refine ⟨trivial, ?_⟩
  with_reducible refine CallsIn.mono (callsIn_wide.2 (blocks_any c _ HZ.out.2.2.2.1.1 HZ.out.2.2.2.1.2)) ?_
  rintro e w3 ⟨q, rfl, hs, hb3⟩
  gi_wp2_with fail
  obtain ⟨v, hv, hr⟩ := hs.out.ex
  have hlen : 0 < (blks c).length := by rw [blks_length]; omega
  obtain ⟨g, cap, rfl, hbg, hgl⟩ := hr.form hlen
  have hlen2 : (blks c).length ≤ 1000 := by rw [blks_length]; have := HZ.out.2.2.2.1; omega
  have hbox : Boxed w3 w5.heap.size 3 (.int .i64 1) := (hb3.block _ (by simp)).trans (heap_alloc_new w5 _)
  have hold : ∀ k, k < w5.heap.size → w3.heap[k]? = w5.heap[k]? := fun k hk => (hb3.block _ (by simp; omega)).trans (Below.heap_alloc _ _ _ hk)
  have hgb : w5.heap.size + 1 ≤ g := by simpa using hbg
  have hwb : Below w.heap.size w w3 := H5.out.1.trans (((Below.refl _ _).alloc (Nat.le_refl _) _).trans (hb3.mono (by simp)) |>.mono (by omega))
  have m1 := (hold _ (by omega)).trans H5.out.2.1
  have m2 : Boxed w3 (w.heap.size + 2) 3 (.int .i64 0) := (hold _ (by omega)).trans H5.out.2.2.1
  have m3 : Boxed w3 (w.heap.size + 3) 35 (.int .i64 0) := (hold _ (by omega)).trans H5.out.2.2.2
  clear hold
  refine wpIn_rangeFunc_ownH rfl (by omega) (gf := 120) (lb := #[.pointer (some ⟨q, 0, none⟩)]) rfl trivial (enters_of Try.func120 (by kernel_rfl) rfl)
    (values_stops 8 (by omega) w3 _ q (· = g) (blks c) hlen2 (by intro h; rw [h] at hlen; simp at hlen) hs.out (by
      intro v' hv' g' hg'
      have := boxed_inj hv hv'
      subst this
      simpa [Value.ownBlock] using hg'.symm) (by intro k hk; omega)) KeepS.trans (keepS_b (by intro k hk; omega)) (Below.refl _ _) (fun _ => rfl)
    (fun pre W => PlaceI p w w5.heap.size w3.heap.size pre W)
    (fun cc pre W => PlaceX p w cc pre W)
    (placeI_own (by omega))
    (fun cc => placeX_own (by omega) cc)
    ⟨by simp, by simpa [rowsW] using hbox, m1, m2, m3, hwb, Nat.le_refl _⟩
    (fun x a' W => ∃ Bx, w5.heap.size ≠ Bx ∧ g ≠ Bx ∧ w5.heap.size ≤ Bx ∧ W.heap[Bx]? = some (.cells x.cells.toArray 131 (0, 0)) ∧ a' = { tmps := #[.agg #[.int .i64 c.v, .int .i64 c.d, .int .i64 c.h, .int .i64 c.l, .int .i64 c.c, .int .i64 c.x], .agg #[.int .i64 p.kind, .int .i64 p.layer, .int .i64 p.row], .pointer (some ⟨w.heap.size, 0, none⟩), .pointer (some ⟨w.heap.size + 1, 0, none⟩), .pointer (some ⟨w.heap.size + 1 + 1, 0, none⟩), .pointer (some ⟨w.heap.size + 1 + 1 + 1, 0, none⟩), .int .i64 0, .pointer (some ⟨w5.heap.size, 0, none⟩), .pointer (some ⟨Bx, 0, none⟩), .agg #[.int .i64 c.v, .int .i64 c.d, .int .i64 c.h, .int .i64 c.l, .int .i64 c.c, .int .i64 c.x], .int .i64 0, .int .i64 0, .bool false, undef, .agg #[.int .i64 c.v, .int .i64 c.d, .int .i64 c.h, .int .i64 c.l, .int .i64 c.c, .int .i64 c.x], .func (.func 120) #[] #[.pointer (some ⟨q, 0, none⟩)], x.val, undef, undef, undef, undef, undef, undef, undef, undef, undef, undef, undef, undef, undef, undef, undef, undef, undef, undef, undef, undef, undef, undef, undef, undef, undef, undef, undef, undef, undef, undef], defers := [] })
    ?hax ?assign ?body ?done ?stop
  case hax =>
    rintro x a' _ X Y row ⟨Bx, h1, h2, h2', h3, h4⟩ hg hrow
    refine ⟨Bx, h1, h2, h2', (hg.block Bx (Array.getElem?_eq_some_iff.1 h3).1 (fun e => ?_)).trans h3, h4⟩
    obtain ⟨_, o, ho, hc⟩ := hrow Bx e.symm
    rw [h3] at ho; cases ho; cases hc
  case assign =>
    rintro l pre x W K hi hK
    simp only [Blk.val]
    have hlt := hi.at_.lt
    have hle := hi.size
    gi_wp2
    refine hK _ _ ((KeepsOthers.alloc _ _).from _) ((KeepS.refl _ W).alloc (by intro k hk; omega) _) (placeI_own (Nat.le_refl _) _ _ _ none hi (World.grownBy_alloc _ _ _) (by simp)) ⟨W.heap.size, by omega, by omega, by omega, heap_alloc_new W _, rfl⟩
  case body =>
    have hsz5 : w.heap.size + 4 ≤ w5.heap.size := hsz
    rintro l pre x a' W hl ⟨r, hrl⟩ hi ⟨Bx, hx1, hx2, hx2', hx3, rfl⟩ hlt
    have hcn := hi.at_.cell
    have hfn := hi.at_.frozen
    have hc2 := hi.r2.cell
    have hf2 := hi.r2.frozen
    have hc3 := hi.r3.cell
    have hf3 := hi.r3.frozen
    have q0 : W.cell? ⟨Bx, 0, none⟩ = some (.int .i64 x.kind) := by rw [cell_of_row W Bx 0 _ _ _ hx3]; rfl
    have q1 : W.cell? ⟨Bx, 1, none⟩ = some (.int .i64 x.layer) := by rw [cell_of_row W Bx 1 _ _ _ hx3]; rfl
    have q2 : W.cell? ⟨Bx, 2, none⟩ = some (.int .i64 x.rows) := by rw [cell_of_row W Bx 2 _ _ _ hx3]; rfl
    have z0 : W.cell? ⟨w.heap.size + 1, 0, none⟩ = some (.int .i64 p.kind) := by rw [cell_of_row W _ 0 _ _ _ hi.part]; rfl
    have z1 : W.cell? ⟨w.heap.size + 1, 1, none⟩ = some (.int .i64 p.layer) := by rw [cell_of_row W _ 1 _ _ _ hi.part]; rfl
    have z2 : W.cell? ⟨w.heap.size + 1, 2, none⟩ = some (.int .i64 p.row) := by rw [cell_of_row W _ 2 _ _ _ hi.part]; rfl
    have HI := Lib.hid (And.intro hi hx3)
    clear hi hx3
    simp only [Blk.val]
    by_cases hk : x.kind = p.kind
    · have ek : (x.kind == p.kind) = true := by simpa using hk
      by_cases hl' : x.layer = p.layer
      · have el : (x.layer == p.layer) = true := by simpa using hl'
        have HH : Hid (hit p x) := ⟨hk, hl'⟩
        clear hk hl'
        by_cases hr1 : p.row < 0
        · gi_wp2
          exact ⟨((KeepsOthers.setCell _ _ _).trans (KeepsOthers.setCell _ _ _)).from _, HI.out.1.left HH.out (by rw [if_pos (.inl hr1)]) (by rw [if_pos (.inl hr1)])⟩
        · by_cases hr2 : x.rows ≤ p.row
          · gi_wp2
            exact ⟨((KeepsOthers.setCell _ _ _).trans (KeepsOthers.setCell _ _ _)).from _, HI.out.1.left HH.out (by rw [if_pos (.inr hr2)]) (by rw [if_pos (.inr hr2)])⟩
          · gi_wp2
            exact ⟨((KeepsOthers.setCell _ _ _).trans (KeepsOthers.setCell _ _ _)).from _, HI.out.1.left HH.out (by rw [if_neg (by omega)]) (by rw [if_neg (by omega)])⟩
      · have el : (x.layer == p.layer) = false := by simpa using hl'
        have HH : Hid (¬ hit p x) := fun h => hl' h.2
        clear hl' hk
        gi_wp2
        refine ⟨(KeepsOthers.setCell _ _ _).from _, (KeepS.refl _ W).setCell 0 (by omega) _, HI.out.1.step hsz5 HH.out⟩
    · have ek : (x.kind == p.kind) = false := by simpa using hk
      have HH : Hid (¬ hit p x) := fun h => hk h.1
      clear hk
      gi_wp2
      refine ⟨(KeepsOthers.setCell _ _ _).from _, (KeepS.refl _ W).setCell 0 (by omega) _, HI.out.1.step hsz5 HH.out⟩
  case done =>
    rintro D ys W hD rfl hi hK
    have hc2 := hi.r2.cell
    have hf2 := hi.r2.frozen
    have hc3 := hi.r3.cell
    have hf3 := hi.r3.frozen
    have HN : Hid (placeL p (blks c) 1 = (0, 10)) := placeL_none _ _ _ hi.no
    have HI := Lib.hid hi
    clear hi
    gi_wp2
    have hK' := (((KeepsOthers.setCell W ⟨w.heap.size + 1 + 1, 0, none⟩ (.int .i64 0)).trans (KeepsOthers.setCell _ ⟨w.heap.size + 1 + 1 + 1, 0, none⟩ (.int .i64 10)))).same D _ hK rfl
    refine ⟨by simp, .inl ⟨_, _, rfl, run_takeDeferred hK', ?_⟩⟩
    have b2 := (HI.out.r2.set (.int .i64 0)).other (B' := w.heap.size + 1 + 1 + 1) (by omega) (.int .i64 10)
    have b3 := (HI.out.r3.other (B' := w.heap.size + 1 + 1) (by omega) (.int .i64 0)).set (.int .i64 10)
    have hg := grownBy_putObj' ((W.setCell ⟨w.heap.size + 1 + 1, 0, none⟩ (.int .i64 0)).setCell ⟨w.heap.size + 1 + 1 + 1, 0, none⟩ (.int .i64 10)) D (.deferred none)
    have hr : ∀ r, some D = some r → ∃ o : Obj, ((W.setCell ⟨w.heap.size + 1 + 1, 0, none⟩ (.int .i64 0)).setCell ⟨w.heap.size + 1 + 1 + 1, 0, none⟩ (.int .i64 10)).heap[r]? = some o ∧ o.isCells = false := fun r e => by cases e; exact ⟨_, hK', rfl⟩
    have c2 := Boxed.cell (cells_own b2 hg hr)
    have c3 := Boxed.cell (cells_own b3 hg hr)
    refine ⟨.tuple #[.int .i64 0, .int .i64 10], by simp [results, Try.f14, go_sem, c2, c3], by rw [HN.out], ?_⟩
    exact ((HI.out.below.setCell (by simp; omega) _).setCell (by simp; omega) _).trans (belowK_b (w := w) (Nat.le_refl _) _ D _ _ (by have := HI.out.below.size; have := hwb.size; omega) hK' rfl rfl)
  case stop =>
    rintro D cc pre W hD hS hi hK
    obtain ⟨rfl, ⟨ini, last, rfl, hno, hhit, b2, b3⟩, hB⟩ := hi
    obtain ⟨tl, htl⟩ := hS
    have hpl := placeL_hit p ini last tl 1 hno hhit
    rw [htl] at hpl
    have hmem : ∀ b ∈ ini ++ [last], b ∈ blks c := fun b hb => by rw [← htl]; exact List.mem_append_left _ hb
    have hini : ini.length ≤ 1000 := by
      have : (ini ++ [last] ++ tl).length ≤ 1000 := by rw [htl]; exact hlen2
      simp at this; omega
    have hrw : rowsW ini = 1 + rowsSum ini := rowsW_eq _ hini (fun b hb => rows_bound HC.out (hmem b (List.mem_append_left _ hb)))
    have hrb := rowsSum_bound (l := ini) (m := 512) (by omega) (fun b hb => by have := rows_bound HC.out (hmem b (List.mem_append_left _ hb)); omega)
    have hlb := rows_bound HC.out (hmem last (by simp))
    have hval : (if p.row < 0 ∨ last.rows ≤ p.row then 0 else wrap64 (rowsW ini + p.row)) = (placeL p (blks c) 1).1 ∧ (if p.row < 0 ∨ last.rows ≤ p.row then (10 : Int) else 0) = (placeL p (blks c) 1).2 := by
      rw [hpl]
      split
      · exact ⟨rfl, rfl⟩
      · refine ⟨?_, rfl⟩
        rw [hrw]
        have : (ini.length : Int) ≤ 1000 := by omega
        unfold wrap64
        simp only
        omega
    rw [hval.1] at b2
    rw [hval.2] at b3
    clear hval hrw hrb hlb hpl htl hno hhit hmem
    have HB := Lib.hid hB
    clear hB
    gi_wp2
    refine ⟨by simp, .inl ⟨_, _, rfl, run_takeDeferred hK, ?_⟩⟩
    have hg := grownBy_putObj' W D (.deferred none)
    have hr : ∀ r, some D = some r → ∃ o : Obj, W.heap[r]? = some o ∧ o.isCells = false := fun r e => by cases e; exact ⟨_, hK, rfl⟩
    have c2 := Boxed.cell (cells_own b2 hg hr)
    have c3 := Boxed.cell (cells_own b3 hg hr)
    refine ⟨.tuple #[.int .i64 (placeL p (blks c) 1).1, .int .i64 (placeL p (blks c) 1).2], by simp [results, Try.f14, go_sem, c2, c3], rfl, ?_⟩
    exact HB.out.trans (belowK_b (w := w) (Nat.le_refl _) W D _ _ (by have := HB.out.size; have := hwb.size; omega) hK rfl rfl)

theorem place_any (c : C6) (p : P3) (w : World) (hrow : -9223372036854775808 ≤ p.row ∧ p.row ≤ 9223372036854775807) :
    Calls Try.prog 14 #[.agg #[.int .i64 c.v, .int .i64 c.d, .int .i64 c.h, .int .i64 c.l, .int .i64 c.c, .int .i64 c.x], .agg #[.int .i64 p.kind, .int .i64 p.layer, .int .i64 p.row]] w fun e w' =>
      e = .returned (.tuple #[.int .i64 (c.place p).1, .int .i64 (c.place p).2]) ∧ Below w.heap.size w w' := by
  unfold C6.place
  by_cases h : c.chk = 0
  · rw [if_pos h]
    exact place_some c p w h hrow
  · rw [if_neg h]
    exact place_none c p w h
end Go.Proofs.Ytfhaebaegkpkhaa.Cfg
