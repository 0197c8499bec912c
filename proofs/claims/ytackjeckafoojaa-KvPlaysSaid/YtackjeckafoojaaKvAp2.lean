/- KvApart: the rows as they were, kept beside the pool. -/
import Derived.Test.YtackjeckafoojaaKvAp1
namespace Go.Proofs.Ytackjeckafoojaa.KvI
open Go.RowKit Kv
variable {B G : Nat} {w w' : World} {s : PSt Int}
/-- A slice of slices of ints: from the i-th on they are as they were. -/
structure Was (B : Nat) (w : World) (vw : Value) (vs : List Value) (ls : List (List Int)) (i : Nat) : Prop where
  ow : w.ownsRow B 42 1 vw vs.length vs
  len : vs.length = ls.length
  each : ∀ (j : Nat) (v : Value) (l : List Int), i ≤ j → vs[j]? = some v → ls[j]? = some l → w.ownsRow B 3 1 v l.length (l.map encI)
  ne : ∀ (j j' : Nat) (v v' : Value) (g : Nat), vs[j]? = some v → vs[j']? = some v' → v.ownBlock = some g → v'.ownBlock = some g → j = j'
  nw : ∀ (j : Nat) (v : Value) (g : Nat), vs[j]? = some v → v.ownBlock = some g → vw.ownBlock ≠ some g
/-- Their blocks. -/
def WasF (vw : Value) (vs : List Value) (i : Nat) (k : Nat) : Prop := vw.ownBlock = some k ∨ ∃ j v, i ≤ j ∧ vs[j]? = some v ∧ v.ownBlock = some k
theorem Was.keep {vw : Value} {vs : List Value} {ls : List (List Int)} {i : Nat} (h : Was B w vw vs ls i) (hk : ∀ k, WasF vw vs i k → w'.heap[k]? = w.heap[k]?) : Was B w' vw vs ls i :=
  ⟨own_same h.ow fun k hk' => hk k (.inl hk'), h.len, fun j v l hj hv hl => own_same (h.each j v l hj hv hl) fun k hk' => hk k (.inr ⟨j, v, hj, hv, hk'⟩), h.ne, h.nw⟩
theorem Was.lt {vw : Value} {vs : List Value} {ls : List (List Int)} {i : Nat} (h : Was B w vw vs ls i) : ∀ k, WasF vw vs i k → B ≤ k ∧ k < w.heap.size := by
  rintro k (hk | ⟨j, v, hj, hv, hk⟩)
  · exact h.ow.lt k hk
  · have hjl : j < ls.length := by rw [← h.len]; exact (List.getElem?_eq_some_iff.1 hv).1
    exact (h.each j v _ hj hv (List.getElem?_eq_getElem hjl)).lt k hk
theorem Was.below {vw : Value} {vs : List Value} {ls : List (List Int)} {i : Nat} (h : Was B w vw vs ls i) (hb : Below w.heap.size w w') : Was B w' vw vs ls i := h.keep fun k hk => hb.block k (h.lt k hk).2
theorem Was.next {vw : Value} {vs : List Value} {ls : List (List Int)} {i : Nat} (h : Was B w vw vs ls i) : Was B w vw vs ls (i + 1) := ⟨h.ow, h.len, fun j v l hj => h.each j v l (by omega), h.ne, h.nw⟩
theorem Was.nil (B : Nat) (w : World) : Was B w (.slice none 0 0) [] [] 0 := ⟨World.ownsRow_nil _ _ _ _, rfl, fun j v l _ h => by simp at h, fun j j' v v' g h => by simp at h, fun j v g h => by simp at h⟩
/-- One more row is kept. -/
theorem Was.push {vw v : Value} {vs : List Value} {ls : List (List Int)} {l : List Int} (h : Was B w vw vs ls 0) (hB : B ≤ w.heap.size) {w1 : World} (hb : Below w.heap.size w w1) (hv : w1.ownsRow w.heap.size 3 1 v l.length (l.map encI))
    {wx w9 : World} {o : Obj} (h1 : wx.heap = w1.heap) (h2 : wx.os = w1.os) (h3 : wx.tape = w1.tape) (h4 : wx.output = w1.output) {v' : Value} {n : Nat} (hn : vs.length = n) (ho : w9.ownsRow B 42 1 v' (n + 1) (vs ++ [v])) (hg : (wx.alloc o).grownBy w9 vw.ownBlock) (hvw : v'.ownBlock = vw.ownBlock ∨ v'.ownBlock = some (wx.alloc o).heap.size) :
    Was B w9 v' (vs ++ [v]) (ls ++ [l]) 0 := by
  subst hn
  have hb1 := below_lit h1 h2 h3 h4 o
  have hs : w1.heap.size < (wx.alloc o).heap.size := by simp [h1]
  have hF : ∀ k, k < w1.heap.size → vw.ownBlock ≠ some k → w9.heap[k]? = w1.heap[k]? := fun k hk hne => (hg.block k (Nat.lt_of_lt_of_le hk hb1.size) (fun e => hne e.symm)).trans (hb1.block k hk)
  have hvwlt : ∀ k, vw.ownBlock = some k → k < w.heap.size := fun k hk => (h.ow.lt k hk).2
  have hvlt : ∀ k, v.ownBlock = some k → w.heap.size ≤ k ∧ k < w1.heap.size := fun k hk => hv.lt k hk
  have hvs : ∀ (j : Nat) (u : Value) (g : Nat), vs[j]? = some u → u.ownBlock = some g → g < w.heap.size := fun (j : Nat) (u : Value) (g : Nat) hj hg => (h.lt g (.inr ⟨j, u, Nat.zero_le _, hj, hg⟩)).2
  have hcase : ∀ (j : Nat) (u : Value), (vs ++ [v])[j]? = some u → (j < vs.length ∧ vs[j]? = some u) ∨ (j = vs.length ∧ u = v) := by
    intro j u hj
    rcases Nat.lt_or_ge j vs.length with hlt | hge
    · rw [List.getElem?_append_left hlt] at hj; exact .inl ⟨hlt, hj⟩
    · have := (List.getElem?_eq_some_iff.1 hj).1
      simp at this
      obtain rfl : j = vs.length := by omega
      simp at hj
      exact .inr ⟨rfl, hj.symm⟩
  refine ⟨by rw [List.length_append]; exact ho, by simp [h.len], fun j u m _ hj hl => ?_, fun j j' u u' g hj hj' hu hu' => ?_, fun j u g hj hu => ?_⟩
  · rcases hcase j u hj with ⟨hlt, k1⟩ | ⟨rfl, rfl⟩
    · rw [List.getElem?_append_left (by rw [← h.len]; exact hlt)] at hl
      exact own_same (own_same (h.each j u m (Nat.zero_le _) k1 hl) fun k hk => hb.block k (hvs j u k k1 hk)) fun k hk => hF k (Nat.lt_of_lt_of_le (hvs j u k k1 hk) hb.size) (h.nw j u k k1 hk)
    · rw [h.len, List.getElem?_append_right (Nat.le_refl _)] at hl
      simp at hl
      subst hl
      have h9 := own_same hv (W' := w9) fun k hk => hF k (hvlt k hk).2 (fun e => by have := hvwlt k e; have := (hvlt k hk).1; omega)
      exact ⟨h9.1, h9.2.imp id fun ⟨g, cap, cur, e, h5, r⟩ => ⟨g, cap, cur, e, by omega, r⟩⟩
  · rcases hcase j u hj with ⟨-, k1⟩ | ⟨rfl, rfl⟩
    · rcases hcase j' u' hj' with ⟨-, k2⟩ | ⟨rfl, rfl⟩
      · exact h.ne j j' u u' g k1 k2 hu hu'
      · have := hvs j u g k1 hu; have := (hvlt g hu').1; omega
    · rcases hcase j' u' hj' with ⟨-, k2⟩ | ⟨rfl, rfl⟩
      · have := hvs j' u' g k2 hu'; have := (hvlt g hu).1; omega
      · rfl
  · intro e
    rcases hvw with e1 | e1
    · rw [e1] at e
      rcases hcase j u hj with ⟨-, k1⟩ | ⟨rfl, rfl⟩
      · exact h.nw j u g k1 hu e
      · have := hvwlt g e; have := (hvlt g hu).1; omega
    · rw [e1] at e
      injection e with e
      rcases hcase j u hj with ⟨-, k1⟩ | ⟨rfl, rfl⟩
      · have := hvs j u g k1 hu; have := hb.size; omega
      · have := (hvlt g hu).2; omega
/-- The i-th one grew: those behind it are as they were. -/
theorem Was.grew {vw v : Value} {vs : List Value} {ls : List (List Int)} {i : Nat} (h : Was B w vw vs ls i) (hi : vs[i]? = some v) {w0 w9 : World} (hb : Below w.heap.size w w0) (hg : w0.grownBy w9 v.ownBlock) : Was B w9 vw vs ls (i + 1) := by
  refine h.next.keep fun k hk => ?_
  have hlt := (h.next.lt k hk).2
  refine (hg.block k (Nat.lt_of_lt_of_le hlt hb.size) ?_).trans (hb.block k hlt)
  intro e
  rcases hk with hk | ⟨j, u, hj, hu, hk⟩
  · exact h.nw i v k hi e.symm hk
  · have := h.ne i j v u k hi hu e.symm hk
    omega
theorem WasF.next {vw : Value} {vs : List Value} {i k : Nat} (h : WasF vw vs (i + 1) k) : WasF vw vs i k := by
  rcases h with h | ⟨j, v, hj, h⟩
  · exact .inl h
  · exact .inr ⟨j, v, by omega, h⟩
theorem apart_pages {F : Nat → Prop} (h : Apart K enc B G w s F) (hi : Inv s) (id : Nat) : Calls Try.prog 19 #[.pointer (some ⟨G, 0, none⟩), .int .i64 (id : Int)] w fun e w' => ∃ A c, e = .returned (.slice A (s.pagesOf id).length c) ∧ Below w.heap.size w w' := by
  obtain ⟨ρ, L, a, rfl, c, d⟩ := h
  refine (pages_any a (id : Int) ?_).mono ?_
  · intro ps n hf
    have := hi.ps_len (find_row hf).2
    omega
  · rintro e w' ⟨v, rfl, h2⟩
    obtain ⟨A, cp, rfl⟩ := own_form h2.own
    exact ⟨A, cp, rfl, h2.below⟩
theorem apart_count {F : Nat → Prop} (h : Apart K enc B G w s F) (i : Nat) : Calls Try.prog 20 #[.pointer (some ⟨G, 0, none⟩), .int .i64 (i : Int)] w fun e w' => e = .returned (.int .i64 (s.cnt i)) ∧ w = w' := by
  obtain ⟨ρ, L, a, rfl, c, d⟩ := h
  exact count_any a i
end Go.Proofs.Ytackjeckafoojaa.KvI
namespace Go.Proofs.Ytackjeckafoojaa.KvI
open Go.RowKit Kv
variable {B G : Nat} {w w' w0 : World} {s : PSt Int} {F : Nat → Prop}
theorem At.later (h : At B G w0 F w s) (hb : Below w.heap.size w w') : At B G w0 F w' s := ⟨h.ap.below hb, fun k hk => Nat.lt_of_lt_of_le (h.lt k hk) hb.size, Nat.le_trans h.size hb.size, h.below.trans (hb.mono h.size)⟩
theorem At.weaken {F' : Nat → Prop} (h : At B G w0 F w s) (hF : ∀ k, F' k → F k) : At B G w0 F' w s := ⟨h.ap.weaken hF, fun k hk => h.lt k (hF k hk), h.size, h.below⟩
theorem At.grew (h : At B G w0 F w s) {w1 w9 : World} {blk : Option Nat} (hb : Below w.heap.size w w1) (hg : w1.grownBy w9 blk) (hn : ∀ g, blk = some g → F g ∧ B ≤ g) : At B G w0 F w9 s := by
  refine ⟨(h.ap.grew h.size h.lt hb hg (fun g hg => (hn g hg).1)).weaken (fun k hk => .inl hk), fun k hk => Nat.lt_of_lt_of_le (h.lt k hk) (Nat.le_trans hb.size hg.size), Nat.le_trans h.size (Nat.le_trans hb.size hg.size), h.below.trans ⟨hg.os.trans hb.os, hg.tape.trans hb.tape, hg.output.trans hb.output, Nat.le_trans hb.size hg.size, fun k hk => ?_⟩⟩
  have hk' : k < w.heap.size := Nat.lt_of_lt_of_le hk h.size
  refine (hg.block k (Nat.lt_of_lt_of_le hk' hb.size) ?_).trans (hb.block k hk')
  intro e
  have := (hn k e.symm).2
  omega
theorem At.push {vw v : Value} {vs : List Value} {l : List Int} (hA : At B G w0 (WasF vw vs 0) w s) (hvB : ∀ k, vw.ownBlock = some k → B ≤ k) {w1 : World} (hb : Below w.heap.size w w1) (hv : w1.ownsRow w.heap.size 3 1 v l.length (l.map encI))
    {wx w9 : World} {o : Obj} (h1 : wx.heap = w1.heap) (h2 : wx.os = w1.os) (h3 : wx.tape = w1.tape) (h4 : wx.output = w1.output) {v' : Value} (hg : (wx.alloc o).grownBy w9 vw.ownBlock) (hvw : v'.ownBlock = vw.ownBlock ∨ v'.ownBlock = some (wx.alloc o).heap.size) (hlt : ∀ k, WasF v' (vs ++ [v]) 0 k → k < w9.heap.size) :
    At B G w0 (WasF v' (vs ++ [v]) 0) w9 s := by
  have hb1 := below_lit h1 h2 h3 h4 o
  have hs : w1.heap.size < (wx.alloc o).heap.size := by simp [h1]
  have hA1 : At B G w0 (fun k => WasF vw vs 0 k ∨ (w.heap.size ≤ k ∧ k < w1.heap.size)) w1 s := by
    refine ⟨((hA.ap.none_ge hA.size hA.lt).weaken fun k hk => hk.imp id And.left).below hb, fun k hk => ?_, Nat.le_trans hA.size hb.size, hA.below.trans (hb.mono hA.size)⟩
    rcases hk with hk | hk
    · exact Nat.lt_of_lt_of_le (hA.lt k hk) hb.size
    · exact hk.2
  have h9 := hA1.grew hb1 hg (fun g hg => ⟨.inl (.inl hg), hvB g hg⟩)
  refine ⟨(hA1.ap.grew hA1.size hA1.lt hb1 hg (fun g hg => .inl (.inl hg))).weaken fun k hk => ?_, hlt, h9.size, h9.below⟩
  rcases hk with hk | ⟨j, u, -, hu, hk⟩
  · rcases hvw with e | e
    · exact .inl (.inl (.inl (e.symm.trans hk)))
    · rw [e] at hk; injection hk with hk; exact .inr (by omega)
  · rcases Nat.lt_or_ge j vs.length with hj | hj
    · rw [List.getElem?_append_left hj] at hu
      exact .inl (.inl (.inr ⟨j, u, Nat.zero_le _, hu, hk⟩))
    · have := (List.getElem?_eq_some_iff.1 hu).1
      simp at this
      obtain rfl : j = vs.length := by omega
      simp at hu
      subst hu
      exact .inl (.inr (hv.lt k hk))
/-- What the walk reads of its arguments. -/
structure ApEnv (W w : World) (p z a b c : Int) : Prop where
  below : Below W.heap.size W w
  size : W.heap.size + 2 ≤ w.heap.size
  b3 : w.heap[W.heap.size]? = some (.cells #[.int .i64 p, .int .i64 z] 22 (0, 0))
  b5 : w.heap[W.heap.size + 1]? = some (.cells #[.int .i64 a, .int .i64 b, .int .i64 c] 36 (0, 0))
theorem ApEnv.keep {p z a b c : Int} {W : World} {B : Nat} (h : ApEnv W w p z a b c) (hB : W.heap.size + 2 ≤ B) (hb : Below B w w') : ApEnv W w' p z a b c :=
  ⟨h.below.trans (hb.mono (by omega)), Nat.le_trans h.size hb.size, (hb.block _ (by omega)).trans h.b3, (hb.block _ (by omega)).trans h.b5⟩
theorem ApEnv.cells {p z a b c : Int} {W : World} (h : ApEnv W w p z a b c) : w.cell? ⟨W.heap.size, 0, none⟩ = some (.int .i64 p) ∧ w.cell? ⟨W.heap.size, 1, none⟩ = some (.int .i64 z) ∧ w.cell? ⟨W.heap.size + 1, 1, none⟩ = some (.int .i64 b) ∧ w.cell? ⟨W.heap.size + 1, 2, none⟩ = some (.int .i64 c) := by
  refine ⟨?_, ?_, ?_, ?_⟩ <;> simp [World.cell?, h.b3, h.b5]
def rowsTo (s : PSt Int) (k : Nat) : List (List Int) := (List.range k).map fun j : Nat => s.all 0 (j : Int)
theorem rowsTo_succ (s : PSt Int) (k : Nat) : rowsTo s k ++ [s.all 0 (k : Int)] = rowsTo s (k + 1) := by simp [rowsTo, List.range_succ]
theorem rowsTo_get (s : PSt Int) {k j : Nat} (h : j < k) : (rowsTo s k)[j]? = some (s.all 0 (j : Int)) := by simp [rowsTo, h]
theorem infoS : (Try.prog.info? 42).map (fun i => (i.zero, i.size, i.bytes)) = some (some (.slice none 0 0), 1, 24) := by kernel_rfl
end Go.Proofs.Ytackjeckafoojaa.KvI
