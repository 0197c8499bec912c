/- sha.New, Write. -/
import Derived.Test.YtplcjgpmainbnaaDoorShT1
import Derived.Test.YtplcjgpmainbnaaDoorOwn
import Derived.Deep.RegionHeld3
set_option linter.unusedVariables false
set_option linter.unusedSimpArgs false
namespace Go.Proofs.YtplcjgpmainbnaaDoor.ShaW
open Go.RowKit Sha Bits OwnS
attribute [local go_sem ↓] Kit.execOp_call_slot
attribute [local go_sem] Kit.callSlot_func
/-- The two tables. -/
structure Glob (w : World) : Prop where
  f : w.rangeAt 0 0 (first.map w32)
  c : w.rangeAt 1 0 (consts.map w32)
def GTop : Nat := max 0 1 + 1
theorem Glob.lt {w : World} (h : Glob w) : 0 < w.heap.size ∧ 1 < w.heap.size := ⟨block_lt_of_cell (h.f 0 _ rfl), block_lt_of_cell (h.c 0 _ rfl)⟩
theorem Glob.same {w w' : World} (h : Glob w) (hf : w'.heap[0]? = w.heap[0]?) (hc : w'.heap[1]? = w.heap[1]?) : Glob w' := ⟨rangeAt_block h.f hf, rangeAt_block h.c hc⟩
theorem Glob.below {w w' : World} {B : Nat} (h : Glob w) (hb : Below B w w') (hB : GTop ≤ B) : Glob w' := h.same (hb.block _ (by unfold GTop at hB; omega)) (hb.block _ (by unfold GTop at hB; omega))
theorem Glob.new {w w' : World} (h : Glob w) (hb : Below w.heap.size w w') : Glob w' := h.same (hb.block _ h.lt.1) (hb.block _ h.lt.2)
theorem Glob.top {w : World} (h : Glob w) : GTop ≤ w.heap.size := by have := h.lt; unfold GTop; omega
theorem Glob.keeps {w w' : World} {S : Nat → Prop} (h : Glob w) (hk : Keeps w w' S) (hS : ∀ b, S b → GTop ≤ b) : Glob w' := h.same (hk.block _ h.lt.1 fun e => by have := hS _ e; unfold GTop at this; omega) (hk.block _ h.lt.2 fun e => by have := hS _ e; unfold GTop at this; omega)
def bytesV (l : List Nat) : List Value := l.map fun b : Nat => (.int .u8 (b : Int) : Value)
theorem bytesV_length (l : List Nat) : (bytesV l).length = l.length := by simp [bytesV]
theorem bytesV_one (l : List Nat) : ∀ u ∈ bytesV l, u.oneCell' = true := fun u hu => by
  obtain ⟨b, -, rfl⟩ := List.mem_map.1 hu
  rfl
theorem bytesV_append (l m : List Nat) : bytesV (l ++ m) = bytesV l ++ bytesV m := by simp [bytesV]
theorem bytesV_drop (l : List Nat) (k : Nat) : (bytesV l).drop k = bytesV (l.drop k) := by simp [bytesV]
theorem bytesV_take (l : List Nat) (k : Nat) : (bytesV l).take k = bytesV (l.take k) := by simp [bytesV]
theorem infoB : ElemInfo Tryd.prog 5 (.int .u8 0) 1 1 := elemInfo (by kernel_rfl) rfl rfl
/-- The cells of a hash. -/
def hashCells (s : St) (v : Value) (n : Int) : List Value := [.int .u32 (num s.a), .int .u32 (num s.b), .int .u32 (num s.c), .int .u32 (num s.d), .int .u32 (num s.e), .int .u32 (num s.f), .int .u32 (num s.g), .int .u32 (num s.h), v, .int .i64 n]
structure HashAt (w : World) (base g : Nat) (v : Value) (s : St) (l : List Nat) (n : Int) : Prop where
  blk : w.heap[g]? = some (.cells (hashCells s v n).toArray 94 (0, 0))
  own : Owns w base 1 v l.length (bytesV l)
  ne : ∀ b, v.ownBlock = some b → b ≠ g
  byte : ∀ x ∈ l, x < 256
theorem hash_cells {w : World} {g : Nat} {s : St} {v : Value} {n : Int} {T : TypeId} (h : w.heap[g]? = some (.cells (hashCells s v n).toArray T (0, 0))) :
    w.cell? ⟨g, 0, none⟩ = some (.int .u32 (num s.a)) ∧ w.cell? ⟨g, 1, none⟩ = some (.int .u32 (num s.b)) ∧ w.cell? ⟨g, 2, none⟩ = some (.int .u32 (num s.c)) ∧ w.cell? ⟨g, 3, none⟩ = some (.int .u32 (num s.d)) ∧
    w.cell? ⟨g, 4, none⟩ = some (.int .u32 (num s.e)) ∧ w.cell? ⟨g, 5, none⟩ = some (.int .u32 (num s.f)) ∧ w.cell? ⟨g, 6, none⟩ = some (.int .u32 (num s.g)) ∧ w.cell? ⟨g, 7, none⟩ = some (.int .u32 (num s.h)) ∧
    w.cell? ⟨g, 8, none⟩ = some v ∧ w.cell? ⟨g, 9, none⟩ = some (.int .i64 n) := by
  refine ⟨?_, ?_, ?_, ?_, ?_, ?_, ?_, ?_, ?_, ?_⟩ <;> (rw [cell_of_row _ _ _ _ _ _ h]; rfl)
theorem row_frozen {w : World} {g : Nat} {cs : Array Value} {T : TypeId} (h : w.heap[g]? = some (.cells cs T (0, 0))) (o : Nat) : w.frozen? ⟨g, o, none⟩ = false := frozen_of_row _ _ _ _ _ h
def NewPost (W : World) (e : Ending) (w' : World) : Prop := e = .returned (.pointer (some ⟨W.heap.size, 0, none⟩)) ∧ HashAt w' W.heap.size W.heap.size (.slice none 0 0) st0 [] 0 ∧ Below W.heap.size W w'
set_option maxRecDepth 100000 in
theorem new_any (W : World) (hG : Glob W) : Calls Tryd.prog 47 #[] W (NewPost W) := by
  have c0 : W.cell? ⟨0, 0, none⟩ = some (.int .u32 (num st0.a)) := hG.f 0 _ rfl
  have c1 : W.cell? ⟨0, 1, none⟩ = some (.int .u32 (num st0.b)) := hG.f 1 _ rfl
  have c2 : W.cell? ⟨0, 2, none⟩ = some (.int .u32 (num st0.c)) := hG.f 2 _ rfl
  have c3 : W.cell? ⟨0, 3, none⟩ = some (.int .u32 (num st0.d)) := hG.f 3 _ rfl
  have c4 : W.cell? ⟨0, 4, none⟩ = some (.int .u32 (num st0.e)) := hG.f 4 _ rfl
  have c5 : W.cell? ⟨0, 5, none⟩ = some (.int .u32 (num st0.f)) := hG.f 5 _ rfl
  have c6 : W.cell? ⟨0, 6, none⟩ = some (.int .u32 (num st0.g)) := hG.f 6 _ rfl
  have c7 : W.cell? ⟨0, 7, none⟩ = some (.int .u32 (num st0.h)) := hG.f 7 _ rfl
  go_enter Tryd.func47, Tryd.ntmps47
  go_wp2_with fail
  go_ret
  exact ⟨rfl, ⟨heap_alloc_new _ _, Owns.nil _ _ _, fun b hb => by (cases hb), fun x hx => by (cases hx)⟩, (Below.refl _ _).alloc (Nat.le_refl _) _⟩
def WritePost (W : World) (base g : Nat) (v : Value) (s : St) (l : List Nat) (n : Int) (b : List Nat) (e : Ending) (w' : World) : Prop :=
  e = .returned (.tuple #[]) ∧ ∃ v', HashAt w' base g v' (write (s, l) b).1 (write (s, l) b).2 (n + b.length) ∧ Keeps W w' (fun k => k = g ∨ v.ownBlock = some k) ∧ (∀ k, v'.ownBlock = some k → v.ownBlock = some k ∨ W.heap.size ≤ k)
theorem HashAt.keeps {w w' : World} {base g : Nat} {v : Value} {s : St} {l : List Nat} {n : Int} {S : Nat → Prop} (h : HashAt w base g v s l n) (hk : Keeps w w' S) (hg : ¬ S g) (hv : ∀ b, v.ownBlock = some b → ¬ S b) (hgz : g < w.heap.size) : HashAt w' base g v s l n :=
  ⟨(hk.block g hgz hg).trans h.blk, h.own.same (fun b hb => hk.block b (h.own.lt b hb).2 (hv b hb)) hk.size, h.ne, h.byte⟩
/-- Within Write's loop: m blocks are still to be turned in. -/
structure InWrite (W w : World) (base g : Nat) (v0 : Value) (p : St × List Nat) (b : List Nat) (n : Int) (m : Nat) (s : St) (l : List Nat) (v : Value) : Prop where
  rest : takeAll m s l = write p b
  many : l.length / 64 = m
  cur : HashAt w base g v s l n
  keeps : Keeps W w (fun k => k = g ∨ v0.ownBlock = some k)
  new : ∀ k, v.ownBlock = some k → v0.ownBlock = some k ∨ W.heap.size ≤ k
  len : l.length ≤ 2000000000
theorem InWrite.glob {W w : World} {base g : Nat} {v0 : Value} {p : St × List Nat} {b : List Nat} {n : Int} {m : Nat} {s : St} {l : List Nat} {v : Value} (h : InWrite W w base g v0 p b n m s l v) (hG : Glob W) (hb : GTop ≤ base) {k0 : Nat} {xs : List Value} (h0 : Owns W base 1 v0 k0 xs) (hg : base ≤ g) : Glob w :=
  hG.keeps h.keeps fun b' hb' => by
    rcases hb' with rfl | hb'
    · omega
    · have := (h0.lt _ hb').1; omega
theorem set_cells {w : World} {g : Nat} {T : TypeId} {l : List Value} (h : w.heap[g]? = some (.cells l.toArray T (0, 0))) (j : Nat) (v : Value) :
    (w.setCell ⟨g, j, none⟩ v).heap[g]? = some (.cells (l.set j v).toArray T (0, 0)) := by
  rw [heap_setCell_same _ _ _ _ _ _ h, List.setIfInBounds_toArray]
theorem hash_put8 {w : World} {g : Nat} {s : St} {v : Value} {n : Int} {T : TypeId} (h : w.heap[g]? = some (.cells (hashCells s v n).toArray T (0, 0))) (y : St) (v' : Value) :
    (((((((((w.setCell ⟨g, 0, none⟩ (.int .u32 (num y.a))).setCell ⟨g, 1, none⟩ (.int .u32 (num y.b))).setCell ⟨g, 2, none⟩ (.int .u32 (num y.c))).setCell ⟨g, 3, none⟩ (.int .u32 (num y.d))).setCell ⟨g, 4, none⟩ (.int .u32 (num y.e))).setCell ⟨g, 5, none⟩ (.int .u32 (num y.f))).setCell ⟨g, 6, none⟩ (.int .u32 (num y.g))).setCell ⟨g, 7, none⟩ (.int .u32 (num y.h))).setCell ⟨g, 8, none⟩ v').heap[g]? = some (.cells (hashCells y v' n).toArray T (0, 0)) := by
  have h9 := set_cells (set_cells (set_cells (set_cells (set_cells (set_cells (set_cells (set_cells (set_cells h 0 (.int .u32 (num y.a))) 1 (.int .u32 (num y.b))) 2 (.int .u32 (num y.c))) 3 (.int .u32 (num y.d))) 4 (.int .u32 (num y.e))) 5 (.int .u32 (num y.f))) 6 (.int .u32 (num y.g))) 7 (.int .u32 (num y.h))) 8 v'
  have e : (((((((((hashCells s v n).set 0 (.int .u32 (num y.a))).set 1 (.int .u32 (num y.b))).set 2 (.int .u32 (num y.c))).set 3 (.int .u32 (num y.d))).set 4 (.int .u32 (num y.e))).set 5 (.int .u32 (num y.f))).set 6 (.int .u32 (num y.g))).set 7 (.int .u32 (num y.h))).set 8 v' = hashCells y v' n := rfl
  rw [e] at h9
  exact h9
theorem own_set9 {w : World} {base size : Nat} {v : Value} {n : Nat} {xs : List Value} {g : Nat} (h : Owns w base size v n xs) (hg : ∀ k, v.ownBlock = some k → k ≠ g) (x0 x1 x2 x3 x4 x5 x6 x7 x8 : Value) :
    Owns (((((((((w.setCell ⟨g, 0, none⟩ x0).setCell ⟨g, 1, none⟩ x1).setCell ⟨g, 2, none⟩ x2).setCell ⟨g, 3, none⟩ x3).setCell ⟨g, 4, none⟩ x4).setCell ⟨g, 5, none⟩ x5).setCell ⟨g, 6, none⟩ x6).setCell ⟨g, 7, none⟩ x7).setCell ⟨g, 8, none⟩ x8) base size v n xs :=
  ((((((((h.setCell hg _).setCell hg _).setCell hg _).setCell hg _).setCell hg _).setCell hg _).setCell hg _).setCell hg _).setCell hg _
theorem keeps_set9 {w w' : World} {S : Nat → Prop} {g : Nat} (h : Keeps w w' S) (hg : S g) (x0 x1 x2 x3 x4 x5 x6 x7 x8 : Value) :
    Keeps w (((((((((w'.setCell ⟨g, 0, none⟩ x0).setCell ⟨g, 1, none⟩ x1).setCell ⟨g, 2, none⟩ x2).setCell ⟨g, 3, none⟩ x3).setCell ⟨g, 4, none⟩ x4).setCell ⟨g, 5, none⟩ x5).setCell ⟨g, 6, none⟩ x6).setCell ⟨g, 7, none⟩ x7).setCell ⟨g, 8, none⟩ x8) S :=
  ((((((((h.setCell (.inl hg) _).setCell (.inl hg) _).setCell (.inl hg) _).setCell (.inl hg) _).setCell (.inl hg) _).setCell (.inl hg) _).setCell (.inl hg) _).setCell (.inl hg) _).setCell (.inl hg) _
theorem InWrite.step {W w w4 : World} {base g : Nat} {v0 : Value} {p : St × List Nat} {b : List Nat} {n : Int} {m : Nat} {s : St} {l : List Nat} {gv o c : Nat} (h : InWrite W w base g v0 p b n m s l (.slice (some ⟨gv, o, none⟩) l.length c)) (hl : ¬ l.length < 64) (hg : base ≤ g)
    (hblk : w4.heap[g]? = some (.cells (hashCells s (.slice (some ⟨gv, o, none⟩) l.length c) n).toArray 94 (0, 0))) (hb : Below w.heap.size w w4) {t : St} (ht : t = turn s (l.take 64)) (a : Addr) (c' : Nat) (ha : (c = 64 ∧ a = ⟨gv, o, none⟩) ∨ a = ⟨gv, o + 64, none⟩) (hc : c' = c - 64) :
    Hid (InWrite W (((((((((w4.setCell ⟨g, 0, none⟩ (.int .u32 (num t.a))).setCell ⟨g, 1, none⟩ (.int .u32 (num t.b))).setCell ⟨g, 2, none⟩ (.int .u32 (num t.c))).setCell ⟨g, 3, none⟩ (.int .u32 (num t.d))).setCell ⟨g, 4, none⟩ (.int .u32 (num t.e))).setCell ⟨g, 5, none⟩ (.int .u32 (num t.f))).setCell ⟨g, 6, none⟩ (.int .u32 (num t.g))).setCell ⟨g, 7, none⟩ (.int .u32 (num t.h))).setCell ⟨g, 8, none⟩ (.slice (some a) (l.length - 64) c')) base g v0 p b n (m - 1) t (l.drop 64) (.slice (some a) (l.length - 64) c')) := by
  subst hc
  have hm := h.many
  have hab : a.block = gv := by rcases ha with ⟨_, rfl⟩ | rfl <;> rfl
  have hne : ∀ k, (Value.slice (some a) (l.length - 64) (c - 64)).ownBlock = some k → k ≠ g := fun k hk => by
    injection hk with hk
    rw [hab] at hk
    exact h.cur.ne k (by rw [← hk]; rfl)
  have hd : (l.drop 64).length = l.length - 64 := by simp
  refine ⟨?_, by rw [hd]; omega, ⟨hash_put8 hblk t _, ?_, hne, fun x hx => h.cur.byte x (List.mem_of_mem_drop hx)⟩, ?_, ?_, ?_⟩
  · rw [← h.rest, ht]
    obtain ⟨m', rfl⟩ : ∃ m', m = m' + 1 := ⟨m - 1, by omega⟩
    conv => rhs; unfold takeAll
    rw [if_neg hl]
    rfl
  · have h1 : Owns w4 base 1 (.slice (some ⟨gv, o, none⟩) l.length c) l.length (bytesV l) := h.cur.own.same (fun k hk => hb.block k (h.cur.own.lt k hk).2) hb.size
    have h2 := Owns.cut h1 (k := 64) (by omega) a (by rcases ha with ⟨e, rfl⟩ | rfl; exact .inl ⟨e, rfl⟩; exact .inr rfl)
    rw [hd, ← bytesV_drop]
    exact own_set9 h2 hne _ _ _ _ _ _ _ _ _
  · exact keeps_set9 (h.keeps.trans (T := fun _ => False) (Keeps.new hb) (fun _ h => h.elim)) (.inl rfl) _ _ _ _ _ _ _ _ _
  · intro k hk
    injection hk with hk
    rw [hab] at hk
    exact h.new k (by rw [← hk]; rfl)
  · rw [hd]; have := h.len; omega
/-- The turn, its words told one by one, in each world of a class. -/
theorem turn_in (w : World) (s t : St) (b : List Nat) (g o : Nat) (ht : t = turn s b) (hb : b.length = 64) (h256 : ∀ x ∈ b, x < 256)
    (hc : ∀ (j x : Nat), b[j]? = some x → w.cell? ⟨g, o + j, none⟩ = some (.int .u8 (x : Int))) (hG : Glob w) {I : Type} (F : I → World) (hF : ∀ i, Below w.heap.size w (F i)) (hFi : ∀ w', Below w.heap.size w w' → ∃ i, w' = F i) (i : I) :
    Calls Tryd.prog 58 #[.agg #[.int .u32 (num s.a), .int .u32 (num s.b), .int .u32 (num s.c), .int .u32 (num s.d), .int .u32 (num s.e), .int .u32 (num s.f), .int .u32 (num s.g), .int .u32 (num s.h)], .slice (some ⟨g, o, none⟩) 64 64] (F i)
      (fun e w'' => e = .returned (.agg #[.int .u32 (num t.a), .int .u32 (num t.b), .int .u32 (num t.c), .int .u32 (num t.d), .int .u32 (num t.e), .int .u32 (num t.f), .int .u32 (num t.g), .int .u32 (num t.h)]) ∧ ∃ j, w'' = F j) := by
  subst ht
  refine (turn_any (F i) s b g o hb h256 (fun j x hj => ?_) (range_below hG.c (hF i))).mono fun e w'' ⟨he, hw⟩ => ⟨he, hFi _ ((hF i).trans (hw.mono (hF i).size))⟩
  have := hc j x hj
  exact ((hF i).cell (p := ⟨g, o + j, none⟩) (block_lt_of_cell this)).trans this
set_option maxRecDepth 100000 in
set_option maxHeartbeats 4000000 in
theorem write_any (W : World) (base g : Nat) (v : Value) (s : St) (l : List Nat) (n : Int) (bv : Value) (b : List Nat) (hG : Glob W) (hbase : GTop ≤ base ∧ base ≤ g ∧ g < W.heap.size) (h : HashAt W base g v s l n)
    (hb : Sees W 1 bv b.length (bytesV b)) (hbg : ∀ k, bv.ownBlock = some k → 0 < (bytesV b).length → k ≠ g) (hbb : ∀ x ∈ b, x < 256) (hn0 : 0 ≤ n) (hn : n + b.length ≤ 1000000000) (hl : l.length ≤ 1000000000) :
    Calls Tryd.prog 48 #[.pointer (some ⟨g, 0, none⟩), bv] W (WritePost W base g v s l n b) := by
  obtain ⟨Ab, cb, rfl, hb1, hb2⟩ := hb.form
  obtain ⟨A, c, rfl, hc1, hc2⟩ := h.own.form
  obtain ⟨c0, c1, c2, c3, c4, c5, c6, c7, c8, c9⟩ := hash_cells h.blk
  have f8 := row_frozen h.blk 8
  have f9 := row_frozen h.blk 9
  have H1 : Hid (Owns (W.setCell ⟨g, 9, none⟩ (.int .i64 (n + b.length))) base 1 (.slice A l.length c) l.length (bytesV l) ∧ Sees (W.setCell ⟨g, 9, none⟩ (.int .i64 (n + b.length))) 1 (.slice Ab b.length cb) b.length (bytesV b) ∧ base ≤ (W.setCell ⟨g, 9, none⟩ (.int .i64 (n + b.length))).heap.size) :=
    ⟨h.own.setCell h.ne _, hb.same (fun k hk h0 => Below.heap_setCell _ _ _ _ (hbg k hk h0)), by simp; omega⟩
  have H2 : Hid ((W.setCell ⟨g, 9, none⟩ (.int .i64 (n + b.length))).heap[g]? = some (.cells (hashCells s (.slice A l.length c) (n + b.length)).toArray 94 (0, 0))) := by
    show _ = _
    rw [heap_setCell_same _ _ _ _ _ _ h.blk]
    rfl
  have H := Lib.hid (And.intro hG (And.intro hbase (And.intro h (And.intro hb (And.intro hbb (And.intro hc1 hc2))))))
  clear hG hbase h hb hbb hb1 hb2 hc1 hc2 hbg
  go_enter Tryd.func48, Tryd.ntmps48
  go_wp2_with fail
  go_step3
  go_wp2_with (at_builtin; refine wpList_append rfl (.tmp 19) (.tmp 20) 28 28 rfl base 5 _ 1 1 Tryd.underlying28 infoB _ l.length (bytesV l) rfl (by exact H1.out.1) _ b.length (bytesV b) rfl (by exact src_of_sees _ Tryd.underlying28 H1.out.2.1 (bytesV_one b)) (by unfold maxLen; omega) (by omega) (by exact H1.out.2.2) ?_; intro A2 c2' w2 hown2 hgr2 hbl2; have hblk2 := (hgr2.block g (by simpa using H.out.2.1.2.2) (fun e => H.out.2.2.1.ne g e.symm rfl)).trans H2.out; have c8 := (hash_cells hblk2).2.2.2.2.2.2.2.2.1; have f8 := row_frozen hblk2 8; have HO := Lib.hid (And.intro hown2 (And.intro hgr2 (And.intro hbl2 hblk2))); clear hown2 hgr2 hbl2 hblk2)
  obtain ⟨w3, hw3⟩ : ∃ w3, w3 = w2.setCell ⟨g, 8, none⟩ (.slice A2 (l.length + b.length) c2') := ⟨_, rfl⟩
  rw [← hw3]
  have HW : Hid (InWrite W w3 base g (.slice A l.length c) (s, l) b (n + b.length) ((l ++ b).length / 64) s (l ++ b) (.slice A2 (l.length + b.length) c2')) := by
    obtain ⟨hown2, hgr2, hbl2, hblk2⟩ := HO.out
    have hg9 : ∀ k, (Value.slice A2 (l.length + b.length) c2').ownBlock = some k → k ≠ g := fun k hk => by
      rcases hbl2 with e | e
      · rw [e] at hk; exact H.out.2.2.1.ne k hk
      · rw [e] at hk; injection hk with hk; have := H.out.2.1.2.2; simp at hk; omega
    refine ⟨rfl, rfl, ?_, ?_, ?_, ?_⟩
    · refine ⟨?_, ?_, hg9, ?_⟩
      · rw [hw3, heap_setCell_same _ _ _ _ _ _ hblk2]; rfl
      · rw [hw3, List.length_append, bytesV_append]
        exact hown2.setCell hg9 _
      · intro x hx
        rcases List.mem_append.1 hx with hx | hx
        · exact H.out.2.2.1.byte x hx
        · exact H.out.2.2.2.2.1 x hx
    · rw [hw3]
      exact (((Keeps.refl W _).setCell (a := ⟨g, 9, none⟩) (.inl (.inl rfl)) _).trans (Keeps.of_grown hgr2 (S := fun k => k = g ∨ (Value.slice A l.length c).ownBlock = some k) fun k hk _ => .inr hk) fun k hk => .inl hk).setCell (.inl (.inl rfl)) _
    · intro k hk
      rcases hbl2 with e | e
      · rw [e] at hk; exact .inl hk
      · rw [e] at hk; injection hk with hk; exact .inr (by simp at hk; omega)
    · simp; omega
  clear HO H2 H1 c8 f8 hw3
  go_step3
  go_wp2_with fail
  go_loopg [24] ((l ++ b).length / 64) (fun m _ wr => ∃ s' l' A' c', Hid (InWrite W wr base g (.slice A l.length c) (s, l) b (n + b.length) m s' l' (.slice A' l'.length c')))
  case atStart => exact ⟨s, l ++ b, A2, c2', by rw [List.length_append] at HW ⊢; exact HW⟩
  case round =>
    obtain ⟨s', l', A', c', hI⟩ := hrel
    obtain ⟨c0, c1, c2, c3, c4, c5, c6, c7, c8, c9⟩ := hash_cells hI.out.cur.blk
    by_cases hlt : l'.length < 64
    · go_wp2_with fail
      rw [Exit.noGoto_normal]
      refine bodyPost_end (results_none rfl _ _ _) rfl ⟨rfl, .slice A' l'.length c', ?_⟩
      have h2 := hI.out.rest
      have h0 : gk = 0 := by have := hI.out.many; omega
      rw [h0] at h2
      have h3 : write (s, l) b = (s', l') := h2.symm
      rw [h3]
      exact ⟨hI.out.cur, hI.out.keeps, hI.out.new⟩
    · obtain ⟨gv, o, cv, hv, hb1, hb2, hb3, hb4, hb5, hb6⟩ := hI.out.cur.own.holds (by omega)
      injection hv with e1 e2 e3
      subst e1 e3
      clear e2
      have i0 : ¬ ((l'.length : Int) < 64) := by omega
      have i1 : (64 : Int) ≤ (c' : Int) := by omega
      obtain ⟨t, ht⟩ : ∃ t, t = turn s' (l'.take 64) := ⟨_, rfl⟩
      have hgz : g < wr.heap.size := block_lt_of_cell c8
      have hcall := fun (I : Type) (F : I → World) (hF : ∀ i, Below wr.heap.size wr (F i)) (hFi : ∀ w', Below wr.heap.size wr w' → ∃ i, w' = F i) (i : I) => turn_in wr s' t (l'.take 64) gv o ht (by rw [List.length_take]; omega) (fun x hx => hI.out.cur.byte x (List.mem_of_mem_take hx)) (fun j x hj => by
        refine hb5 j _ ?_
        rw [List.getElem?_take] at hj
        split at hj
        · unfold bytesV; rw [List.getElem?_map, hj]; rfl
        · cases hj) (hI.out.glob H.out.1 H.out.2.1.1 H.out.2.2.1.own H.out.2.1.2.1) F hF hFi i
      have HT := Lib.hid (And.intro hcall ht)
      have HI2 := Lib.hid (And.intro hb1 (And.intro hb2 (And.intro hb3 (And.intro hb4 (And.intro hb5 hb6)))))
      clear ht hcall hb5 hb6 hb1 hb2 hb3 hb4 c9
      go_wp2_with fail
      refine QTail.wp_region_below_tail 13 wr.heap.size (by kernel_rfl) (by kernel_rfl) ?_
      intro I hNI F hF hFi
      have C0 := fun i => ((hF i).cell (p := ⟨g, 0, none⟩) hgz).trans c0
      have C1 := fun i => ((hF i).cell (p := ⟨g, 1, none⟩) hgz).trans c1
      have C2 := fun i => ((hF i).cell (p := ⟨g, 2, none⟩) hgz).trans c2
      have C3 := fun i => ((hF i).cell (p := ⟨g, 3, none⟩) hgz).trans c3
      have C4 := fun i => ((hF i).cell (p := ⟨g, 4, none⟩) hgz).trans c4
      have C5 := fun i => ((hF i).cell (p := ⟨g, 5, none⟩) hgz).trans c5
      have C6 := fun i => ((hF i).cell (p := ⟨g, 6, none⟩) hgz).trans c6
      have C7 := fun i => ((hF i).cell (p := ⟨g, 7, none⟩) hgz).trans c7
      have C8 := fun i => ((hF i).cell (p := ⟨g, 8, none⟩) hgz).trans c8
      have HC := Lib.hid (HT.out.1 I F hF hFi)
      have HF := Lib.hid hF
      clear hF hFi
      simp only [List.take_succ_cons, List.take_zero, List.drop_succ_cons, List.drop_zero]
      repeat (go_big_quiet_step (exact HC.out _))
      refine wpQuiet_nil ?_
      intro w4 hw'
      obtain ⟨j, hw''⟩ := hw'
      have hb4 : Below wr.heap.size wr w4 := by rw [hw'']; exact HF.out j
      clear C0 C1 C2 C3 C4 C5 C6 C7 C8 hw''
      have hblk4 := (hb4.block g hgz).trans hI.out.cur.blk
      obtain ⟨e0, e1, e2, e3, e4, e5, e6, e7, e8, -⟩ := hash_cells hblk4
      have r0 := row_frozen hblk4 0
      have r1 := row_frozen hblk4 1
      have r2 := row_frozen hblk4 2
      have r3 := row_frozen hblk4 3
      have r4 := row_frozen hblk4 4
      have r5 := row_frozen hblk4 5
      have r6 := row_frozen hblk4 6
      have r7 := row_frozen hblk4 7
      have r8 := row_frozen hblk4 8
      have H4 := Lib.hid (And.intro hblk4 hb4)
      clear hblk4 hb4
      go_wp2_with fail
      all_goals
        go_roundg (gk - 1)
        case measure => have := hI.out.many; omega
        case rel =>
          have hd : (l'.drop 64).length = l'.length - 64 := by simp
          rcases Decidable.em (c' = 64) with hc | hc
          · first
              | (exfalso; omega)
              | exact ⟨t, l'.drop 64, some ⟨gv, o, none⟩, 0, by rw [hd]; exact hI.out.step hlt H.out.2.1.2.1 H4.out.1 H4.out.2 HT.out.2 ⟨gv, o, none⟩ 0 (.inl ⟨hc, rfl⟩) (by omega)⟩
          · first
              | (exfalso; omega)
              | exact ⟨t, l'.drop 64, some ⟨gv, o + 64, none⟩, c' - 64, by rw [hd]; exact hI.out.step hlt H.out.2.1.2.1 H4.out.1 H4.out.2 HT.out.2 ⟨gv, o + 64, none⟩ (c' - 64) (.inr rfl) rfl⟩
end Go.Proofs.YtplcjgpmainbnaaDoor.ShaW
