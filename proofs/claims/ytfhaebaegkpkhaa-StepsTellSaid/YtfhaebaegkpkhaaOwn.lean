/- A slice whose elements, and whose spare cells, are one's own (anywhere in a block): what reads, cuts, appends make of it. · append, onto what is one's own, in a walk; slices cut; which blocks a call keeps. · append(x, make([]T, m)...), onto what is one's own. · append, onto what is one's own, in a fenced walk. -/
import Derived.WalkKit
import Derived.Below
import Derived.Deep.AppendSrc
import Derived.Deep.MidRow
import Derived.Deep.Upon
import Derived.Deep.Draws
import Derived.OwnWalk
import Derived.IntWalk
import Derived.OwnWalkIn
set_option linter.unusedVariables false
set_option linter.unusedSimpArgs false
namespace Go.Proofs.Ytfhaebaegkpkhaa.OwnS
open Go Go.RowKit
/-- The cells of n elements, seen through a slice value. -/
def Sees (w : World) (size : Nat) (v : Value) (n : Nat) (xs : List Value) : Prop :=
  xs.length = n * size ∧ ((n = 0 ∧ ∃ A cap, v = .slice A 0 cap ∧ cap ≤ maxLen) ∨ ∃ g o cap, v = .slice (some ⟨g, o, none⟩) n cap ∧ n ≤ cap ∧ cap ≤ maxLen ∧ w.rangeAt g o xs)
/-- The same, and all cells up to the capacity are there and may be written; the block is one from base on. -/
def Owns (w : World) (base size : Nat) (v : Value) (n : Nat) (xs : List Value) : Prop :=
  xs.length = n * size ∧ ((v = .slice none 0 0 ∧ n = 0) ∨ ∃ g o cap, v = .slice (some ⟨g, o, none⟩) n cap ∧ base ≤ g ∧ g < w.heap.size ∧ n ≤ cap ∧ cap ≤ maxLen ∧ w.rangeAt g o xs ∧ w.there g o (cap * size))
section
variable {w w' : World} {base size : Nat} {v : Value} {n : Nat} {xs : List Value}
theorem Owns.sees (h : Owns w base size v n xs) : Sees w size v n xs := by
  refine ⟨h.1, ?_⟩
  rcases h.2 with h0 | ⟨g, o, cap, h1, _, _, h2, h3, h4, _⟩
  · exact .inl ⟨h0.2, none, 0, h0.1, by unfold maxLen; omega⟩
  · exact .inr ⟨g, o, cap, h1, h2, h3, h4⟩
theorem Owns.nil (w : World) (base size : Nat) : Owns w base size (.slice none 0 0) 0 [] := ⟨by simp, .inl ⟨rfl, rfl⟩⟩
theorem Sees.nil (w : World) (size : Nat) : Sees w size (.slice none 0 0) 0 [] := ⟨by simp, .inl ⟨rfl, none, 0, rfl, by unfold maxLen; omega⟩⟩
theorem Owns.lt (h : Owns w base size v n xs) : ∀ k, v.ownBlock = some k → base ≤ k ∧ k < w.heap.size := by
  intro k hk
  rcases h.2 with ⟨rfl, _⟩ | ⟨g, o, cap, rfl, h1, h2, _⟩
  · cases hk
  · injection hk with hk
    subst hk
    exact ⟨h1, h2⟩
theorem rangeAt_block {g o : Nat} {cs : List Value} (h : w.rangeAt g o cs) (hk : w'.heap[g]? = w.heap[g]?) : w'.rangeAt g o cs := fun j u hj =>
  (World.cell?_of_block (a := ⟨g, o + j, none⟩) hk).trans (h j u hj)
theorem there_block {g o n : Nat} (h : w.there g o n) (hk : w'.heap[g]? = w.heap[g]?) : w'.there g o n := fun j hj =>
  ⟨by rw [World.cell?_of_block (a := ⟨g, o + j, none⟩) hk]; exact (h j hj).1, by rw [World.frozen?_of_block (a := ⟨g, o + j, none⟩) hk]; exact (h j hj).2⟩
/-- The block is as it was. -/
theorem Owns.same (h : Owns w base size v n xs) (hk : ∀ b, v.ownBlock = some b → w'.heap[b]? = w.heap[b]?) (hs : w.heap.size ≤ w'.heap.size) : Owns w' base size v n xs := by
  refine ⟨h.1, ?_⟩
  rcases h.2 with h0 | ⟨g, o, cap, rfl, h1, h2, h3, h4, h5, h6⟩
  · exact .inl h0
  · exact .inr ⟨g, o, cap, rfl, h1, Nat.lt_of_lt_of_le h2 hs, h3, h4, rangeAt_block h5 (hk g rfl), there_block h6 (hk g rfl)⟩
theorem Sees.lt (h : Sees w size v n xs) {b : Nat} (hb : v.ownBlock = some b) (hn : 0 < xs.length) : b < w.heap.size := by
  rcases h.2 with ⟨h0, _⟩ | ⟨g, o, cap, rfl, h3, h4, h5⟩
  · have := h.1
    rw [h0, Nat.zero_mul] at this
    omega
  · injection hb with hb
    subst hb
    exact block_lt_of_cell (h5 0 _ (List.getElem?_eq_getElem hn))
theorem Sees.same (h : Sees w size v n xs) (hk : ∀ b, v.ownBlock = some b → 0 < xs.length → w'.heap[b]? = w.heap[b]?) : Sees w' size v n xs := by
  refine ⟨h.1, ?_⟩
  rcases h.2 with h0 | ⟨g, o, cap, rfl, h3, h4, h5⟩
  · exact .inl h0
  · refine .inr ⟨g, o, cap, rfl, h3, h4, fun j u hj => ?_⟩
    exact rangeAt_block h5 (hk g rfl (by have := (List.getElem?_eq_some_iff.1 hj).1; omega)) j u hj
theorem Sees.below {B : Nat} (h : Sees w size v n xs) (hb : Below B w w') (hlt : ∀ b, v.ownBlock = some b → 0 < xs.length → b < B) : Sees w' size v n xs := h.same fun b hb' hn => hb.block b (hlt b hb' hn)
theorem Sees.new (h : Sees w size v n xs) (hb : Below w.heap.size w w') : Sees w' size v n xs := h.below hb fun b e hn => h.lt e hn
theorem Owns.kept {row : Option Nat} (h : Owns w base size v n xs) (hg : w.grownBy w' row) (hne : ∀ b, v.ownBlock = some b → some b ≠ row) : Owns w' base size v n xs :=
  h.same (fun b hb => hg.block b (h.lt b hb).2 (hne b hb)) hg.size
theorem Owns.alloc (h : Owns w base size v n xs) (o : Obj) : Owns (w.alloc o) base size v n xs := h.same (fun b hb => Below.heap_alloc _ _ _ (h.lt b hb).2) (by simp)
theorem Owns.drew (h : Owns w base size v n xs) : Owns w.drew base size v n xs := h.same (fun _ _ => rfl) (Nat.le_refl _)
theorem Owns.drewN (h : Owns w base size v n xs) (k : Nat) : Owns (w.drewN k) base size v n xs := h.same (fun _ _ => rfl) (Nat.le_refl _)
theorem Owns.setCell (h : Owns w base size v n xs) {a : Addr} (ha : ∀ b, v.ownBlock = some b → b ≠ a.block) (u : Value) : Owns (w.setCell a u) base size v n xs :=
  h.same (fun b hb => Below.heap_setCell _ _ _ _ (ha b hb)) (by simp)
theorem Owns.mono {base' : Nat} (h : Owns w base size v n xs) (hb : base' ≤ base) : Owns w base' size v n xs := by
  refine ⟨h.1, ?_⟩
  rcases h.2 with h0 | ⟨g, o, cap, rfl, h1, h2⟩
  · exact .inl h0
  · exact .inr ⟨g, o, cap, rfl, Nat.le_trans hb h1, h2⟩
/-- Its form. -/
theorem Owns.form (h : Owns w base size v n xs) : ∃ A cap, v = .slice A n cap ∧ n ≤ cap ∧ cap ≤ maxLen := by
  rcases h.2 with ⟨rfl, rfl⟩ | ⟨g, o, cap, rfl, _, _, h3, h4, _⟩
  · exact ⟨_, _, rfl, Nat.le_refl _, by unfold maxLen; omega⟩
  · exact ⟨_, _, rfl, h3, h4⟩
theorem Sees.form (h : Sees w size v n xs) : ∃ A cap, v = .slice A n cap ∧ n ≤ cap ∧ cap ≤ maxLen := by
  rcases h.2 with ⟨rfl, A, cap, rfl, hc⟩ | ⟨g, o, cap, rfl, h3, h4, _⟩
  · exact ⟨A, cap, rfl, Nat.zero_le _, hc⟩
  · exact ⟨_, _, rfl, h3, h4⟩
/-- A slice that holds something. -/
theorem Sees.holds (h : Sees w size v n xs) (hn : 0 < n) : ∃ g o cap, v = .slice (some ⟨g, o, none⟩) n cap ∧ n ≤ cap ∧ cap ≤ maxLen ∧ w.rangeAt g o xs := by
  rcases h.2 with ⟨rfl, _⟩ | ⟨g, o, cap, h⟩
  · omega
  · exact ⟨g, o, cap, h⟩
theorem Owns.holds (h : Owns w base size v n xs) (hn : 0 < n) : ∃ g o cap, v = .slice (some ⟨g, o, none⟩) n cap ∧ base ≤ g ∧ g < w.heap.size ∧ n ≤ cap ∧ cap ≤ maxLen ∧ w.rangeAt g o xs ∧ w.there g o (cap * size) := by
  rcases h.2 with ⟨_, rfl⟩ | ⟨g, o, cap, h⟩
  · omega
  · exact ⟨g, o, cap, h⟩
theorem rangeAt_drop {g o k : Nat} {cs : List Value} (h : w.rangeAt g o cs) : w.rangeAt g (o + k) (cs.drop k) := fun j u hj => by
  rw [List.getElem?_drop] at hj
  have := h (k + j) u hj
  rwa [← Nat.add_assoc] at this
theorem rangeAt_take {g o k : Nat} {cs : List Value} (h : w.rangeAt g o cs) : w.rangeAt g o (cs.take k) := fun j u hj => by
  rw [List.getElem?_take] at hj
  split at hj
  · exact h j u hj
  · cases hj
theorem there_drop {g o k n : Nat} (h : w.there g o (k + n)) : w.there g (o + k) n := fun j hj => by
  have := h (k + j) (by omega)
  rwa [← Nat.add_assoc] at this
theorem there_mono {g o n m : Nat} (h : w.there g o n) (hm : m ≤ n) : w.there g o m := fun j hj => h j (by omega)
/-- A block that is known whole. -/
theorem rangeAt_whole {g : Nat} {cs : List Value} {t : TypeId} {fr : Nat × Nat} (h : w.heap[g]? = some (.cells cs.toArray t fr)) : w.rangeAt g 0 cs := fun j u hj => by
  rw [cell_of_row w g _ _ t fr h, Nat.zero_add]
  simpa using hj
theorem there_whole {g : Nat} {cs : List Value} {t : TypeId} (h : w.heap[g]? = some (.cells cs.toArray t (0, 0))) : w.there g 0 cs.length := fun j hj => by
  rw [cell_of_row w g _ _ t (0, 0) h, Nat.zero_add]
  exact ⟨by simp [hj], frozen_of_row _ _ _ _ _ h⟩
theorem Owns.whole {g k : Nat} {cs : List Value} {t : TypeId} (h : w.heap[g]? = some (.cells cs.toArray t (0, 0))) (hb : base ≤ g) (hk : cs.length = k * size) (hm : k ≤ maxLen) : Owns w base size (.slice (some ⟨g, 0, none⟩) k k) k cs :=
  ⟨hk, .inr ⟨g, 0, k, rfl, hb, (Array.getElem?_eq_some_iff.1 h).1, Nat.le_refl _, hm, rangeAt_whole h, by rw [← hk]; exact there_whole h⟩⟩
end

theorem setCells_same (g : Nat) : ∀ (vs : List Value) (o : Nat) (w : World), (w.setCells g o vs).os = w.os ∧ (w.setCells g o vs).tape = w.tape ∧ (w.setCells g o vs).output = w.output ∧ (w.setCells g o vs).heap.size = w.heap.size
  | [], _, _ => ⟨rfl, rfl, rfl, rfl⟩
  | u :: r, o, w => by
    obtain ⟨h1, h2, h3, h4⟩ := setCells_same g r (o + 1) (w.setCell ⟨g, o, none⟩ u)
    exact ⟨h1, h2, h3, h4.trans (by simp)⟩
section
variable {P : Program} (w : World)
theorem grownBy_refl (row : Option Nat) : w.grownBy w row := ⟨rfl, rfl, rfl, Nat.le_refl _, fun _ _ _ => rfl⟩
theorem add_lit (g o j : Nat) : (⟨g, o, none⟩ : Addr).add j = ⟨g, o + j, none⟩ := by unfold Addr.add; split <;> simp_all
/-- What a slice that is seen yields as a source. -/
theorem src_of_sees {size : Nat} {t e : TypeId} (hk : P.underlying t = some (.slice e)) {x : Value} {m : Nat} {news : List Value} (h : Sees w size x m news) (h1 : ∀ u ∈ news, u.oneCell' = true) : Src P size t x m news w := by
  rcases h.2 with ⟨rfl, A, cap, rfl, hc⟩ | ⟨g, o, cap, rfl, _, _, hr⟩
  · have : news = [] := List.eq_nil_of_length_eq_zero (by simpa using h.1)
    subst this
    cases A with
    | none => exact Src.ofNil w hk cap
    | some a => exact Src.ofSlice w hk a 0 cap [] (by simp) (fun j u hj => by simp at hj) (by simp)
  · exact Src.ofSlice w hk _ m cap news h.1 (fun j u hj => by rw [add_lit]; exact hr j u hj) h1
/-- append, of whatever, onto what is one's own. -/
theorem run_append (base : Nat) (t tx ty e : TypeId) (i : TypeInfo) (z : Value) (size bytes : Nat) (ht : P.underlying t = some (.slice e)) (hi : P.info? e = some i) (hz : i.zero = some z)
    (hsize : i.size = size) (hby : i.bytes = bytes) (hzs : z.cells.size = size) (hz1 : ∀ u ∈ z.cells.toList, u.oneCell' = true)
    (v : Value) (n : Nat) (xs : List Value) (hown : Owns w base size v n xs) (x : Value) (m : Nat) (news : List Value) (hs : Src P size tx x m news w)
    (h63 : n + m ≤ maxLen) (hbytes : (n + m) * bytes ≤ 140737488355328) (hbase : base ≤ w.heap.size) :
    ∃ v' w', (Builtin.append_ #[t, tx] ty #[v, x]).run P w = .ok v' w' ∧ Owns w' base size v' (n + m) (xs ++ news) ∧ w.grownBy w' v.ownBlock ∧ (v'.ownBlock = v.ownBlock ∨ v'.ownBlock = some w.heap.size) ∧ (n + m = 0 → v = .slice none 0 0 → v' = .slice none 0 0) := by
  subst hsize
  subst hby
  have hsmall : n + m ≤ 9223372036854775807 := by simp only [maxLen] at h63; omega
  have hlen : (xs ++ news).length = (n + m) * i.size := by rw [List.length_append, hown.1, hs.newsLen, Nat.add_mul]
  have grown : ∀ (A : Option Addr) (cap : Nat), v = .slice A n cap → cap < n + m → (Builtin.firstCells i.size n v).run P w.drew = .ok xs.toArray w.drew →
      ∃ v' w', (Builtin.append_ #[t, tx] ty #[v, x]).run P w = .ok v' w' ∧ Owns w' base i.size v' (n + m) (xs ++ news) ∧ w.grownBy w' v.ownBlock ∧ (v'.ownBlock = v.ownBlock ∨ v'.ownBlock = some w.heap.size) ∧ (n + m = 0 → v = .slice none 0 0 → v' = .slice none 0 0) := by
    intro A cap hv hlt hold
    subst hv
    have hr := run_append_grow_src (P := P) w t tx ty e i z ht hi hz A n cap xs hold x m news hs hlt (by omega) (growslice_fits hlt hbytes)
    have hge := grownCap_ge w (n + m) cap e
    have hcm : grownCap w (n + m) cap e ≤ maxLen := grownCap_le_maxLen w (n + m) cap e h63
    refine ⟨_, _, hr, ⟨hlen, .inr ⟨w.heap.size, 0, _, rfl, hbase, by simp, hge, hcm, ?_, ?_⟩⟩, ⟨rfl, rfl, rfl, by simp, fun k hk _ => Below.heap_alloc w.drew _ k hk⟩, .inr rfl, fun h0 => by omega⟩
    · intro j u hj
      have hb := heap_alloc_new w.drew (.cells ((xs ++ news).toArray ++ Builtin.zeroCells z.cells (grownCap w (n + m) cap e - (n + m))) e)
      rw [cell_of_row _ w.heap.size _ _ e (0, 0) hb, Nat.zero_add, Array.getElem?_append_left (by simpa using (List.getElem?_eq_some_iff.1 hj).1)]
      simpa using hj
    · intro j hj
      have hb := heap_alloc_new w.drew (.cells ((xs ++ news).toArray ++ Builtin.zeroCells z.cells (grownCap w (n + m) cap e - (n + m))) e)
      refine ⟨?_, ?_⟩
      · rw [cell_of_row _ w.heap.size _ _ e (0, 0) hb, Nat.zero_add]
        have hsz : ((xs ++ news).toArray ++ Builtin.zeroCells z.cells (grownCap w (n + m) cap e - (n + m))).size = grownCap w (n + m) cap e * i.size := by
          rw [Array.size_append, List.size_toArray, hlen, size_zeroCells, hzs, ← Nat.add_mul]
          congr 1
          omega
        rw [Array.getElem?_eq_getElem (by rw [hsz]; exact hj)]
        rfl
      · exact frozen_of_row _ w.heap.size _ _ _ hb
  rcases hown.2 with ⟨rfl, rfl⟩ | ⟨g, o, cap, rfl, hbg, hgs, hnc, hcm, hrange, hthere⟩
  · have hx : xs = [] := List.eq_nil_of_length_eq_zero (by simpa using hown.1)
    subst hx
    by_cases hm : m = 0
    · subst hm
      have hn : news = [] := List.eq_nil_of_length_eq_zero (by simpa using hs.newsLen)
      subst hn
      have hlen0 : ∀ w' : World, (Builtin.lenOf (.slice none 0 0)).run P w' = .ok 0 w' := fun _ => rfl
      refine ⟨.slice none 0 0, w, ?_, Owns.nil w base i.size, grownBy_refl w _, .inl rfl, fun _ _ => rfl⟩
      rcases hs.kind with ⟨e', hk⟩ | hk <;> simp [Builtin.append_, run_underlying ht, run_underlying hk, sizeOf, typeInfo, hi, hs.len, hlen0, hs.cells]
    · exact grown none 0 rfl (by omega) (run_firstCells_none w.drew i.size 0 0 0)
  · by_cases hroom : n + m ≤ cap
    · have hin : ∀ j, j < news.length → n * i.size + j < cap * i.size := fun j hj => by
        have h1 : (n + m) * i.size ≤ cap * i.size := Nat.mul_le_mul_right _ hroom
        rw [Nat.add_mul, ← hs.newsLen] at h1
        omega
      have hr := run_append_room_src (P := P) w t tx ty e i ht hi g o n cap x m news hs hroom (fun j hj => by have := (hthere _ (hin j hj)).1; rwa [← Nat.add_assoc] at this) (fun j hj => by have := (hthere _ (hin j hj)).2; rwa [← Nat.add_assoc] at this)
      have hso : w.heap.size ≤ (w.setCells g (o + n * i.size) news).heap.size := Nat.le_of_eq (setCells_same g news _ w).2.2.2.symm
      refine ⟨_, _, hr, ⟨hlen, .inr ⟨g, o, cap, rfl, hbg, by omega, hroom, hcm, ?_, World.there_setCells hthere _ _ _⟩⟩, ⟨?_, ?_, ?_, hso, fun k hk hne => World.heap_setCells_other w g _ news hk (fun e => hne (by rw [e]; rfl))⟩, .inl rfl, fun _ h0 => by cases h0⟩
      · intro j u hj
        rw [List.getElem?_append] at hj
        split at hj
        · rename_i hlt
          rw [World.cell?_setCells_out g news _ w _ (fun _ _ => .inl (by show o + j < o + n * i.size; have := hown.1; omega))]
          exact hrange j u hj
        · rename_i hge
          have hx1 := hown.1
          obtain ⟨hj1, hj2⟩ := List.getElem?_eq_some_iff.1 hj
          have := World.cell?_setCells_in g news (o + n * i.size) w (fun q hq => by have := (hthere _ (hin q hq)).1; rwa [← Nat.add_assoc] at this) _ hj1
          rw [hj2] at this
          rw [← this]
          congr 2
          omega
      · exact (setCells_same g news (o + n * i.size) w).1
      · exact (setCells_same g news (o + n * i.size) w).2.1
      · exact (setCells_same g news (o + n * i.size) w).2.2.1
    · exact grown _ cap rfl (by omega) (run_firstCells_some (P := P) w.drew i.size n ⟨g, o, none⟩ n cap xs hown.1 (fun j u hj => by rw [add_lit]; simpa using hrange j u hj))
end
end Go.Proofs.Ytfhaebaegkpkhaa.OwnS
set_option linter.unusedVariables false
set_option linter.unusedSimpArgs false
namespace Go.Proofs.Ytfhaebaegkpkhaa.OwnS
open Go Go.RowKit
/-- What the table says of an element's type. -/
def ElemInfo (P : Program) (e : TypeId) (z : Value) (size bytes : Nat) : Prop := ∃ i, P.info? e = some i ∧ i.zero = some z ∧ i.size = size ∧ i.bytes = bytes ∧ z.cells.size = size ∧ z.cells.toList.all (·.oneCell') = true
theorem elemInfo {P : Program} {e : TypeId} {z : Value} {size bytes : Nat} (h : (P.info? e).map (fun i => (i.zero, i.size, i.bytes)) = some (some z, size, bytes)) (hz : z.cells.size = size) (h1 : z.cells.toList.all (·.oneCell') = true) : ElemInfo P e z size bytes := by
  obtain ⟨i, a, b, c, d⟩ := info_parts h
  exact ⟨i, a, b, c, d, hz, h1⟩
section
variable {P : Program} {w : World}
theorem wp_append {o : Oper} {a : Act} {K : Act → World → Prop} {Q : Exit → Act → World → Prop} (s x : Operand) (t tx : TypeId)
    (ho : o.op = .call { callee := .builtin .append, args := #[s, x], argTypes := #[t, tx] })
    (base : Nat) (e : TypeId) (z : Value) (size bytes : Nat) (ht : P.underlying t = some (.slice e)) (hi : ElemInfo P e z size bytes)
    (v : Value) (n : Nat) (xs : List Value) (hs : a.eval s = v) (hown : Owns w base size v n xs)
    (xv : Value) (m : Nat) (news : List Value) (hx : a.eval x = xv) (hsrc : Src P size tx xv m news w)
    (h63 : n + m ≤ maxLen) (hbytes : (n + m) * bytes ≤ 140737488355328) (hbase : base ≤ w.heap.size)
    (h : ∀ A c w', Owns w' base size (.slice A (n + m) c) (n + m) (xs ++ news) → w.grownBy w' v.ownBlock → ((Value.slice A (n + m) c).ownBlock = v.ownBlock ∨ (Value.slice A (n + m) c).ownBlock = some w.heap.size) → K (a.put o.dst (.slice A (n + m) c)) w') : o.wp P a w K Q := by
  obtain ⟨i, hi0, hz, hsize, hby, hzs, h1⟩ := hi
  obtain ⟨v', w', hr, h2, h3, h4, -⟩ := run_append (P := P) w base t tx o.type e i z size bytes ht hi0 hz hsize hby hzs (fun u hu => List.all_eq_true.1 h1 u hu) v n xs hown xv m news hsrc h63 hbytes hbase
  obtain ⟨A, c, rfl, -, -⟩ := h2.form
  unfold Oper.wp execOp
  simp only [ho, resolve, invoke, builtin, Sem.run_bind, Sem.run_pure, Result.andThen_ok, List.map_toArray, List.map_cons, List.map_nil, hs, hx, hr]
  exact h A c w' h2 h3 h4
theorem wpList_append {ops : Array Oper} {rest : List Oper} {o : Oper} {a : Act} {Q : Exit → Act → World → Prop} (hgd : o.guard = none) (s x : Operand) (t tx : TypeId)
    (ho : o.op = .call { callee := .builtin .append, args := #[s, x], argTypes := #[t, tx] })
    (base : Nat) (e : TypeId) (z : Value) (size bytes : Nat) (ht : P.underlying t = some (.slice e)) (hi : ElemInfo P e z size bytes)
    (v : Value) (n : Nat) (xs : List Value) (hs : a.eval s = v) (hown : Owns w base size v n xs)
    (xv : Value) (m : Nat) (news : List Value) (hx : a.eval x = xv) (hsrc : Src P size tx xv m news w)
    (h63 : n + m ≤ maxLen) (hbytes : (n + m) * bytes ≤ 140737488355328) (hbase : base ≤ w.heap.size)
    (h : ∀ A c w', Owns w' base size (.slice A (n + m) c) (n + m) (xs ++ news) → w.grownBy w' v.ownBlock → ((Value.slice A (n + m) c).ownBlock = v.ownBlock ∨ (Value.slice A (n + m) c).ownBlock = some w.heap.size) → wpList P ops Q rest (a.put o.dst (.slice A (n + m) c)) w') : wpList P ops Q (o :: rest) a w :=
  wpList_plain hgd fun _ hK => wp_append s x t tx ho base e z size bytes ht hi v n xs hs hown xv m news hx hsrc h63 hbytes hbase fun A c w' h2 h3 h4 => hK _ _ (h A c w' h2 h3 h4)
theorem step_append {ops : Array Oper} {o : Oper} {a : Act} {K : Act → World → Prop} {Q : Exit → Act → World → Prop} {E : Prop} (hgd : o.guard = none) (s x : Operand) (t tx : TypeId)
    (ho : o.op = .call { callee := .builtin .append, args := #[s, x], argTypes := #[t, tx] })
    (base : Nat) (e : TypeId) (z : Value) (size bytes : Nat) (ht : P.underlying t = some (.slice e)) (hi : ElemInfo P e z size bytes)
    (v : Value) (n : Nat) (xs : List Value) (hs : a.eval s = v) (hown : Owns w base size v n xs)
    (xv : Value) (m : Nat) (news : List Value) (hx : a.eval x = xv) (hsrc : Src P size tx xv m news w)
    (h63 : n + m ≤ maxLen) (hbytes : (n + m) * bytes ≤ 140737488355328) (hbase : base ≤ w.heap.size)
    (h : ∀ A c w', Owns w' base size (.slice A (n + m) c) (n + m) (xs ++ news) → w.grownBy w' v.ownBlock → ((Value.slice A (n + m) c).ownBlock = v.ownBlock ∨ (Value.slice A (n + m) c).ownBlock = some w.heap.size) → K (a.put o.dst (.slice A (n + m) c)) w') :
    if Region.wanted o (yielded ops a.tmps) = true then Oper.wp P o a w K Q else E := by
  have hw : Region.wanted o (yielded ops a.tmps) = true := by simp [Region.wanted, hgd]
  rw [if_pos hw]
  exact wp_append s x t tx ho base e z size bytes ht hi v n xs hs hown xv m news hx hsrc h63 hbytes hbase h
/-- One thing of one cell, boxed, as a source. -/
theorem src_one {t e : TypeId} (hk : P.underlying t = some (.slice e)) {g : Nat} {u : Value} {c : Nat} (hc : w.cell? ⟨g, 0, none⟩ = some u) (h1 : u.oneCell' = true) : Src P 1 t (.slice (some ⟨g, 0, none⟩) 1 c) 1 [u] w :=
  Src.ofSlice w hk ⟨g, 0, none⟩ 1 c [u] rfl (fun j x hj => by
    match j, hj with
    | 0, hj => injection hj with hj; subst hj; rw [add_lit]; exact hc) (fun x hx => by rw [List.mem_singleton] at hx; subst hx; exact h1)
end
section
variable {w w' : World} {base size : Nat} {n : Nat} {xs : List Value}
/-- x[k:]: the model keeps the old address where nothing is left of the capacity. -/
theorem Owns.cut {g o cap k : Nat} (h : Owns w base size (.slice (some ⟨g, o, none⟩) n cap) n xs) (hk : k ≤ n) (a : Addr) (ha : (cap = k ∧ a = ⟨g, o, none⟩) ∨ a = ⟨g, o + k * size, none⟩) : Owns w base size (.slice (some a) (n - k) (cap - k)) (n - k) (xs.drop (k * size)) := by
  have hlen : (xs.drop (k * size)).length = (n - k) * size := by rw [List.length_drop, h.1, Nat.sub_mul]
  refine ⟨hlen, ?_⟩
  rcases h.2 with ⟨h0, -⟩ | ⟨g', o', cap', h0, h1, h2, h3, h4, h5, h6⟩
  · cases h0
  · injection h0 with e1 e2 e3
    injection e1 with e1
    injection e1 with e1 e4
    subst e1 e3 e4
    rcases ha with ⟨rfl, rfl⟩ | rfl
    · have : n = cap := by omega
      subst this
      refine .inr ⟨g, o, _, rfl, h1, h2, by omega, by omega, ?_, ?_⟩
      · have : xs.drop (n * size) = [] := List.eq_nil_of_length_eq_zero (by rw [hlen]; simp)
        rw [this]
        intro j u hj
        simp at hj
      · intro j hj
        simp at hj
    · refine .inr ⟨g, _, _, rfl, h1, h2, by omega, by omega, rangeAt_drop h5, ?_⟩
      refine there_drop (there_mono h6 ?_)
      rw [Nat.sub_mul]
      have : k * size ≤ cap * size := Nat.mul_le_mul_right _ (by omega)
      omega
/-- x[:k]. -/
theorem Owns.takes {g o cap k c : Nat} (h : Owns w base size (.slice (some ⟨g, o, none⟩) n cap) n xs) (hk : k ≤ n) (hc : k ≤ c ∧ c ≤ cap) : Owns w base size (.slice (some ⟨g, o, none⟩) k c) k (xs.take (k * size)) := by
  refine ⟨by rw [List.length_take, h.1]; exact Nat.min_eq_left (Nat.mul_le_mul_right _ hk), ?_⟩
  rcases h.2 with ⟨h0, -⟩ | ⟨g', o', cap', h0, h1, h2, h3, h4, h5, h6⟩
  · cases h0
  · injection h0 with e1 e2 e3
    injection e1 with e1
    injection e1 with e1 e4
    subst e1 e3 e4
    exact .inr ⟨g, o, c, rfl, h1, h2, hc.1, by omega, rangeAt_take h5, there_mono h6 (Nat.mul_le_mul_right _ hc.2)⟩
end
theorem heap_setCells_ne (w : World) (g : Nat) : ∀ (o : Nat) (vs : List Value) {k : Nat}, k ≠ g → (w.setCells g o vs).heap[k]? = w.heap[k]? := by
  intro o vs
  induction vs generalizing o w with
  | nil => intro k _; rfl
  | cons v r ih => intro k hk; exact (ih (w.setCell ⟨g, o, none⟩ v) (o + 1) hk).trans (Below.heap_setCell _ _ _ _ hk)
/-- All blocks that were there, but for those of S, are as they were. -/
structure Keeps (w w' : World) (S : Nat → Prop) : Prop where
  os : w'.os = w.os
  tape : w'.tape = w.tape
  output : w'.output = w.output
  size : w.heap.size ≤ w'.heap.size
  block : ∀ k, k < w.heap.size → ¬ S k → w'.heap[k]? = w.heap[k]?
section
variable {w w1 w2 : World} {S T : Nat → Prop}
theorem Keeps.refl (w : World) (S : Nat → Prop) : Keeps w w S := ⟨rfl, rfl, rfl, Nat.le_refl _, fun _ _ _ => rfl⟩
theorem Keeps.trans (h : Keeps w w1 S) (k : Keeps w1 w2 T) (hT : ∀ b, T b → S b ∨ w.heap.size ≤ b) : Keeps w w2 S :=
  ⟨k.os.trans h.os, k.tape.trans h.tape, k.output.trans h.output, Nat.le_trans h.size k.size, fun b hb hS =>
    (k.block b (Nat.lt_of_lt_of_le hb h.size) (fun hTb => (hT b hTb).elim hS (fun h => by omega))).trans (h.block b hb hS)⟩
theorem Keeps.mono (h : Keeps w w1 S) (hS : ∀ b, b < w.heap.size → S b → T b) : Keeps w w1 T := ⟨h.os, h.tape, h.output, h.size, fun b hb hT => h.block b hb fun h => hT (hS b hb h)⟩
theorem Keeps.of_below {B : Nat} (h : Below B w w1) (hB : ∀ b, b < w.heap.size → B ≤ b → S b) : Keeps w w1 S := ⟨h.os, h.tape, h.output, h.size, fun b hb hS => h.block b (by
  rcases Nat.lt_or_ge b B with h1 | h1
  · exact h1
  · exact absurd (hB b hb h1) hS)⟩
theorem Keeps.new (h : Below w.heap.size w w1) : Keeps w w1 S := Keeps.of_below h fun b hb h => by omega
theorem Keeps.of_grown {row : Option Nat} (h : w.grownBy w1 row) (hr : ∀ b, row = some b → b < w.heap.size → S b) : Keeps w w1 S := ⟨h.os, h.tape, h.output, h.size, fun b hb hS => h.block b hb fun e => hS (hr b e.symm hb)⟩
theorem Keeps.setCell (h : Keeps w w1 S) {a : Addr} (ha : S a.block ∨ w.heap.size ≤ a.block) (u : Value) : Keeps w (w1.setCell a u) S :=
  ⟨h.os, h.tape, h.output, by simpa using h.size, fun b hb hS => (Below.heap_setCell _ _ _ _ (fun e => by subst e; rcases ha with ha | ha; exact hS ha; omega)).trans (h.block b hb hS)⟩
theorem Keeps.alloc (h : Keeps w w1 S) (o : Obj) : Keeps w (w1.alloc o) S :=
  ⟨h.os, h.tape, h.output, Nat.le_trans h.size (by simp), fun b hb hS => (Below.heap_alloc _ _ _ (Nat.lt_of_lt_of_le hb h.size)).trans (h.block b hb hS)⟩
theorem Keeps.drew (h : Keeps w w1 S) : Keeps w w1.drew S := ⟨h.os, h.tape, h.output, h.size, h.block⟩
theorem Keeps.drewN (h : Keeps w w1 S) (n : Nat) : Keeps w (w1.drewN n) S := ⟨h.os, h.tape, h.output, h.size, h.block⟩
theorem Keeps.below {B : Nat} (h : Keeps w w1 S) (hB : B ≤ w.heap.size) (hS : ∀ b, b < B → ¬ S b) : Below B w w1 := ⟨h.os, h.tape, h.output, h.size, fun b hb => h.block b (by omega) (hS b hb)⟩
theorem Keeps.cell (h : Keeps w w1 S) {p : Addr} {u : Value} (hp : w.cell? p = some u) (hS : ¬ S p.block) : w1.cell? p = some u := (World.cell?_of_block (h.block p.block (block_lt_of_cell hp) hS)).trans hp
end
end Go.Proofs.Ytfhaebaegkpkhaa.OwnS
set_option linter.unusedVariables false
set_option linter.unusedSimpArgs false
namespace Go.Proofs.Ytfhaebaegkpkhaa.OwnS
open Go Go.RowKit
section
variable {P : Program} (w : World)
theorem zeros_length (z : Array Value) (m : Nat) : (Builtin.zeroCells z m).toList.length = m * z.size := by rw [Array.length_toList, size_zeroCells]
theorem zeros_one (z : Array Value) (m : Nat) (h1 : ∀ u ∈ z.toList, u.oneCell' = true) : ∀ u ∈ (Builtin.zeroCells z m).toList, u.oneCell' = true := by
  intro u hu
  unfold Builtin.zeroCells at hu
  simp only [Array.toList_map, List.mem_map, Array.toList_range, List.mem_range] at hu
  obtain ⟨i, hi, rfl⟩ := hu
  have hz : 0 < z.size := by
    rcases Nat.eq_zero_or_pos z.size with h | h
    · rw [h] at hi; omega
    · exact h
  have hlt := Nat.mod_lt i hz
  rw [getElem!_pos z _ hlt]
  exact h1 _ (by simp)
/-- The zeros of one cell. -/
theorem zeros_byte (z : Value) (m : Nat) : (Builtin.zeroCells #[z] m).toList = List.replicate m z := by
  unfold Builtin.zeroCells
  refine List.ext_getElem (by simp) fun i h1 h2 => ?_
  simp [Nat.mod_one]
theorem run_append_zeros (base : Nat) (t tx ty e : TypeId) (k : IntKind) (i : TypeInfo) (z : Value) (size bytes : Nat) (ht : P.underlying t = some (.slice e)) (htx : P.underlying tx = some (.int k)) (hi : P.info? e = some i) (hz : i.zero = some z)
    (hsize : i.size = size) (hby : i.bytes = bytes) (hzs : z.cells.size = size) (hz1 : ∀ u ∈ z.cells.toList, u.oneCell' = true)
    (v : Value) (n : Nat) (xs : List Value) (hown : Owns w base size v n xs) (m : Nat)
    (h63 : n + m ≤ maxLen) (hbytes : (n + m) * bytes ≤ 140737488355328) (hbase : base ≤ w.heap.size) :
    ∃ v' w', (Builtin.append_ #[t, tx] ty #[v, .int k (m : Int)]).run P w = .ok v' w' ∧ Owns w' base size v' (n + m) (xs ++ (Builtin.zeroCells z.cells m).toList) ∧ w.grownBy w' v.ownBlock ∧ (v'.ownBlock = v.ownBlock ∨ v'.ownBlock = some w.heap.size) := by
  subst hsize
  subst hby
  have hsmall : n + m ≤ 9223372036854775807 := by simp only [maxLen] at h63; omega
  have hwrap : IntKind.i64.wrap (m : Int) = (m : Int) := IntWalk.i64_in _ (by omega)
  have hnl := zeros_length z.cells m
  rw [hzs] at hnl
  have hone := zeros_one z.cells m hz1
  have hmb : ¬ (281474976710656 < (m : Int) * (i.bytes : Int)) := by
    have : m * i.bytes ≤ (n + m) * i.bytes := Nat.mul_le_mul_right _ (by omega)
    have h2 : ((m * i.bytes : Nat) : Int) = (m : Int) * (i.bytes : Int) := by simp
    omega
  have hm0 : ¬ ((m : Int) < 0) := by omega
  have hai : ∀ (x : Int) (w' : World), (asIntOf (Value.int k x)).run P w' = .ok (k, x) w' := fun _ _ => rfl
  have hz0 : m * i.size = 0 → Builtin.zeroCells z.cells m = #[] := fun h0 => Array.eq_empty_of_size_eq_zero (by rw [size_zeroCells, hzs]; exact h0)
  have happ : ∀ w' : World, (if m * i.size = 0 then (pure #[] : Sem (Array Value)) else do pure (Builtin.zeroCells (← zeroValue e).cells m)).run P w' = .ok (Builtin.zeroCells z.cells m) w' := by
    intro w'
    split
    · rename_i h0
      have : Builtin.zeroCells z.cells m = #[] := Array.eq_empty_of_size_eq_zero (by rw [size_zeroCells, hzs]; exact h0)
      rw [this]
      rfl
    · simp [zeroValue, typeInfo, hi, hz]
  have hlen : (xs ++ (Builtin.zeroCells z.cells m).toList).length = (n + m) * i.size := by rw [List.length_append, hown.1, hnl, Nat.add_mul]
  have grown : ∀ (A : Option Addr) (cap : Nat), v = .slice A n cap → cap < n + m → (Builtin.firstCells i.size n v).run P w.drew = .ok xs.toArray w.drew →
      ∃ v' w', (Builtin.append_ #[t, tx] ty #[v, .int k (m : Int)]).run P w = .ok v' w' ∧ Owns w' base i.size v' (n + m) (xs ++ (Builtin.zeroCells z.cells m).toList) ∧ w.grownBy w' v.ownBlock ∧ (v'.ownBlock = v.ownBlock ∨ v'.ownBlock = some w.heap.size) := by
    intro A cap hv hlt hold
    subst hv
    have hn : ¬ (n + m ≤ cap) := by omega
    have h63' : ¬ (9223372036854775807 < ((n : Int) + (m : Int))) := by omega
    have h48' : ¬ (281474976710656 < Builtin.nextslicecap (n + m) cap * i.bytes) := by have := growslice_fits hlt hbytes; omega
    have hge := grownCap_ge w (n + m) cap e
    have hcm : grownCap w (n + m) cap e ≤ maxLen := grownCap_le_maxLen w (n + m) cap e h63
    have hr : (Builtin.append_ #[t, tx] ty #[.slice A n cap, .int k (m : Int)]).run P w = .ok (.slice (some ⟨w.heap.size, 0, none⟩) (n + m) (grownCap w (n + m) cap e)) (w.drew.alloc (.cells ((xs ++ (Builtin.zeroCells z.cells m).toList).toArray ++ Builtin.zeroCells z.cells (grownCap w (n + m) cap e - (n + m))) e)) := by
      have ha := happ w.drew
      simp [Builtin.append_, run_underlying ht, run_underlying htx, sizeOf, typeInfo, zeroValue, hi, hz, asInt, hai, hwrap, hm0, hmb, hn, h63', h48', Question.forced, hold, newRow, grownCap]
      by_cases h0 : m * i.size = 0
      · rw [if_pos h0, hz0 h0]; simp
      · rw [if_neg h0]
        congr 2
        refine congrArg (fun c => Obj.cells c e (0, 0)) ?_
        apply Array.ext'
        simp
    refine ⟨_, _, hr, ⟨hlen, .inr ⟨w.heap.size, 0, _, rfl, hbase, by simp, hge, hcm, ?_, ?_⟩⟩, ⟨rfl, rfl, rfl, by simp, fun k hk _ => Below.heap_alloc w.drew _ k hk⟩, .inr rfl⟩
    · intro j u hj
      have hb := heap_alloc_new w.drew (.cells ((xs ++ (Builtin.zeroCells z.cells m).toList).toArray ++ Builtin.zeroCells z.cells (grownCap w (n + m) cap e - (n + m))) e)
      rw [cell_of_row _ w.heap.size _ _ e (0, 0) hb, Nat.zero_add, Array.getElem?_append_left (by simpa using (List.getElem?_eq_some_iff.1 hj).1)]
      simpa using hj
    · intro j hj
      have hb := heap_alloc_new w.drew (.cells ((xs ++ (Builtin.zeroCells z.cells m).toList).toArray ++ Builtin.zeroCells z.cells (grownCap w (n + m) cap e - (n + m))) e)
      refine ⟨?_, ?_⟩
      · rw [cell_of_row _ w.heap.size _ _ e (0, 0) hb, Nat.zero_add]
        have hsz : ((xs ++ (Builtin.zeroCells z.cells m).toList).toArray ++ Builtin.zeroCells z.cells (grownCap w (n + m) cap e - (n + m))).size = grownCap w (n + m) cap e * i.size := by
          rw [Array.size_append, List.size_toArray, hlen, size_zeroCells, hzs, ← Nat.add_mul]
          congr 1
          omega
        rw [Array.getElem?_eq_getElem (by rw [hsz]; exact hj)]
        rfl
      · exact frozen_of_row _ w.heap.size _ _ _ hb
  rcases hown.2 with ⟨rfl, rfl⟩ | ⟨g, o, cap, rfl, hbg, hgs, hnc, hcm, hrange, hthere⟩
  · have hx : xs = [] := List.eq_nil_of_length_eq_zero (by simpa using hown.1)
    subst hx
    by_cases hm : m = 0
    · subst hm
      have hn : (Builtin.zeroCells z.cells 0).toList = [] := List.eq_nil_of_length_eq_zero (by simpa using hnl)
      rw [hn]
      refine ⟨.slice none 0 0, w, ?_, Owns.nil w base i.size, grownBy_refl w _, .inl rfl⟩
      have ha := happ w
      have hw0 : IntKind.i64.wrap 0 = 0 := by decide
      simp [Builtin.append_, run_underlying ht, run_underlying htx, sizeOf, typeInfo, hi, asInt, hai, hw0]
    · exact grown none 0 rfl (by omega) (run_firstCells_none w.drew i.size 0 0 0)
  · by_cases hroom : n + m ≤ cap
    · have hin : ∀ j, j < (Builtin.zeroCells z.cells m).toList.length → n * i.size + j < cap * i.size := fun j hj => by
        have h1 : (n + m) * i.size ≤ cap * i.size := Nat.mul_le_mul_right _ hroom
        rw [Nat.add_mul, ← hnl] at h1
        omega
      have hst := run_storeCells_cells (P := P) g (o + n * i.size) (Builtin.zeroCells z.cells m).toList 0 w (fun j hj => by have := (hthere _ (hin j hj)).1; rwa [← Nat.add_assoc] at this) (fun j hj => by have := (hthere _ (hin j hj)).2; rwa [← Nat.add_assoc] at this) hone
      simp only [Nat.add_zero] at hst
      have hr : (Builtin.append_ #[t, tx] ty #[.slice (some ⟨g, o, none⟩) n cap, .int k (m : Int)]).run P w = .ok (.slice (some ⟨g, o, none⟩) (n + m) cap) (w.setCells g (o + n * i.size) (Builtin.zeroCells z.cells m).toList) := by
        simp [Builtin.append_, run_underlying ht, run_underlying htx, sizeOf, typeInfo, hi, asInt, hai, hwrap, hm0, hmb, hroom, Addr.add_lit, hst]
        by_cases h0 : m * i.size = 0
        · rw [if_pos h0, hz0 h0]; rfl
        · rw [if_neg h0]; simp [zeroValue, typeInfo, hi, hz, hst]
      have hso : w.heap.size ≤ (w.setCells g (o + n * i.size) (Builtin.zeroCells z.cells m).toList).heap.size := Nat.le_of_eq (setCells_same g _ _ w).2.2.2.symm
      refine ⟨_, _, hr, ⟨hlen, .inr ⟨g, o, cap, rfl, hbg, by omega, hroom, hcm, ?_, World.there_setCells hthere _ _ _⟩⟩, ⟨(setCells_same g _ _ w).1, (setCells_same g _ _ w).2.1, (setCells_same g _ _ w).2.2.1, hso, fun k hk hne => World.heap_setCells_other w g _ _ hk (fun e => hne (by rw [e]; rfl))⟩, .inl rfl⟩
      intro j u hj
      rw [List.getElem?_append] at hj
      split at hj
      · rename_i hlt
        rw [World.cell?_setCells_out g _ _ w _ (fun _ _ => .inl (by show o + j < o + n * i.size; have := hown.1; omega))]
        exact hrange j u hj
      · rename_i hge
        have hx1 := hown.1
        obtain ⟨hj1, hj2⟩ := List.getElem?_eq_some_iff.1 hj
        have := World.cell?_setCells_in g (Builtin.zeroCells z.cells m).toList (o + n * i.size) w (fun q hq => by have := (hthere _ (hin q hq)).1; rwa [← Nat.add_assoc] at this) _ hj1
        rw [hj2] at this
        rw [← this]
        congr 2
        omega
    · exact grown _ cap rfl (by omega) (run_firstCells_some (P := P) w.drew i.size n ⟨g, o, none⟩ n cap xs hown.1 (fun j u hj => by rw [add_lit]; simpa using hrange j u hj))
theorem wp_append_zeros {w : World} {o : Oper} {a : Act} {K : Act → World → Prop} {Q : Exit → Act → World → Prop} (s x : Operand) (t tx : TypeId)
    (ho : o.op = .call { callee := .builtin .append, args := #[s, x], argTypes := #[t, tx] })
    (base : Nat) (e : TypeId) (k : IntKind) (z : Value) (size bytes : Nat) (ht : P.underlying t = some (.slice e)) (htx : P.underlying tx = some (.int k)) (hi : ElemInfo P e z size bytes)
    (v : Value) (n : Nat) (xs : List Value) (hs : a.eval s = v) (hown : Owns w base size v n xs) (m : Nat) (hx : a.eval x = .int k (m : Int))
    (h63 : n + m ≤ maxLen) (hbytes : (n + m) * bytes ≤ 140737488355328) (hbase : base ≤ w.heap.size)
    (h : ∀ A c w', Owns w' base size (.slice A (n + m) c) (n + m) (xs ++ (Builtin.zeroCells z.cells m).toList) → w.grownBy w' v.ownBlock → ((Value.slice A (n + m) c).ownBlock = v.ownBlock ∨ (Value.slice A (n + m) c).ownBlock = some w.heap.size) → K (a.put o.dst (.slice A (n + m) c)) w') : o.wp P a w K Q := by
  obtain ⟨i, hi0, hz, hsize, hby, hzs, h1⟩ := hi
  obtain ⟨v', w', hr, h2, h3, h4⟩ := run_append_zeros (P := P) w base t tx o.type e k i z size bytes ht htx hi0 hz hsize hby hzs (fun u hu => List.all_eq_true.1 h1 u hu) v n xs hown m h63 hbytes hbase
  obtain ⟨A, c, rfl, -, -⟩ := h2.form
  unfold Oper.wp execOp
  simp only [ho, resolve, invoke, builtin, Sem.run_bind, Sem.run_pure, Result.andThen_ok, List.map_toArray, List.map_cons, List.map_nil, hs, hx, hr]
  exact h A c w' h2 h3 h4
theorem wpList_append_zeros {w : World} {ops : Array Oper} {rest : List Oper} {o : Oper} {a : Act} {Q : Exit → Act → World → Prop} (hgd : o.guard = none) (s x : Operand) (t tx : TypeId)
    (ho : o.op = .call { callee := .builtin .append, args := #[s, x], argTypes := #[t, tx] })
    (base : Nat) (e : TypeId) (k : IntKind) (z : Value) (size bytes : Nat) (ht : P.underlying t = some (.slice e)) (htx : P.underlying tx = some (.int k)) (hi : ElemInfo P e z size bytes)
    (v : Value) (n : Nat) (xs : List Value) (hs : a.eval s = v) (hown : Owns w base size v n xs) (m : Nat) (hx : a.eval x = .int k (m : Int))
    (h63 : n + m ≤ maxLen) (hbytes : (n + m) * bytes ≤ 140737488355328) (hbase : base ≤ w.heap.size)
    (h : ∀ A c w', Owns w' base size (.slice A (n + m) c) (n + m) (xs ++ (Builtin.zeroCells z.cells m).toList) → w.grownBy w' v.ownBlock → ((Value.slice A (n + m) c).ownBlock = v.ownBlock ∨ (Value.slice A (n + m) c).ownBlock = some w.heap.size) → wpList P ops Q rest (a.put o.dst (.slice A (n + m) c)) w') : wpList P ops Q (o :: rest) a w :=
  wpList_plain hgd fun _ hK => wp_append_zeros s x t tx ho base e k z size bytes ht htx hi v n xs hs hown m hx h63 hbytes hbase fun A c w' h2 h3 h4 => hK _ _ (h A c w' h2 h3 h4)
end
end Go.Proofs.Ytfhaebaegkpkhaa.OwnS
set_option linter.unusedVariables false
set_option linter.unusedSimpArgs false
namespace Go.Proofs.Ytfhaebaegkpkhaa.OwnS
open Go Go.RowKit
section
variable {P : Program} {w : World}
theorem wpListIn_append {F : Fence} {N : Nat} {ops : Array Oper} {rest : List Oper} {o : Oper} {a : Act} {Q : Exit → Act → World → Prop} (hgd : o.guard = none) (s x : Operand) (t tx : TypeId)
    (ho : o.op = .call { callee := .builtin .append, args := #[s, x], argTypes := #[t, tx] })
    (base : Nat) (e : TypeId) (z : Value) (size bytes : Nat) (ht : P.underlying t = some (.slice e)) (hi : ElemInfo P e z size bytes)
    (v : Value) (n : Nat) (xs : List Value) (hs : a.eval s = v) (hown : Owns w base size v n xs)
    (xv : Value) (m : Nat) (news : List Value) (hx : a.eval x = xv) (hsrc : Src P size tx xv m news w)
    (h63 : n + m ≤ maxLen) (hbytes : (n + m) * bytes ≤ 140737488355328) (hbase : base ≤ w.heap.size)
    (h : ∀ A c w', Owns w' base size (.slice A (n + m) c) (n + m) (xs ++ news) → w.grownBy w' v.ownBlock → ((Value.slice A (n + m) c).ownBlock = v.ownBlock ∨ (Value.slice A (n + m) c).ownBlock = some w.heap.size) → wpListIn F N P ops Q rest (a.put o.dst (.slice A (n + m) c)) w') : wpListIn F N P ops Q (o :: rest) a w := by
  refine wpListIn_plain hgd fun K hK' => ?_
  obtain ⟨i, hi0, hz, hsize, hby, hzs, h1⟩ := hi
  obtain ⟨v', w', hr, h2, h3, h4, -⟩ := run_append (P := P) w base t tx o.type e i z size bytes ht hi0 hz hsize hby hzs (fun u hu => List.all_eq_true.1 h1 u hu) v n xs hown xv m news hsrc h63 hbytes hbase
  obtain ⟨A, c, rfl, -, -⟩ := h2.form
  unfold Oper.wpIn
  refine ⟨?_, ?_⟩
  · simp [Oper.about, ho, resolve, Target.leads, Sem.run_pure]
  · rw [Oper.semAt_plain F _ _ (by rw [ho]; intro c hc'; cases hc')]
    simp [execOp, ho, resolve, invoke, builtin, hs, hx, hr, Result.andThen]
    exact hK' _ _ (h A c w' h2 h3 h4)
end
end Go.Proofs.Ytfhaebaegkpkhaa.OwnS
