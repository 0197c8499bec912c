/- A pool beside two lists that are being made: what a call and an append leave of them. -/
import Derived.Test.YtackjeckafoojaaKvShW
import Derived.Test.YtackjeckafoojaaKvSep
namespace Go.Proofs.Ytackjeckafoojaa.KvI
open Go.RowKit Kv

/-- A pool at G made since the world w0, and two lists of ints of their own. -/
structure Sh (w0 : World) (G : Nat) (w : World) (s : PSt Int) (va vb : Value) (a b : List Int) : Prop where
  ap : Apart K enc w0.heap.size G w s (fun k => va.ownBlock = some k ∨ vb.ownBlock = some k)
  oa : w.ownsRow w0.heap.size 3 1 va a.length (a.map encI)
  ob : w.ownsRow w0.heap.size 3 1 vb b.length (b.map encI)
  ne : ∀ g, va.ownBlock = some g → vb.ownBlock ≠ some g
  below : Below w0.heap.size w0 w
section
variable {w0 w w' : World} {G : Nat} {s : PSt Int} {va vb : Value} {a b : List Int}
theorem Sh.lt (h : Sh w0 G w s va vb a b) : ∀ k, (va.ownBlock = some k ∨ vb.ownBlock = some k) → k < w.heap.size := by
  rintro k (hk | hk)
  · exact own_lt' h.oa hk
  · exact own_lt' h.ob hk
theorem Sh.keep (h : Sh w0 G w s va vb a b) (hb : Below w.heap.size w w') : Sh w0 G w' s va vb a b :=
  ⟨h.ap.below hb, own_same h.oa fun k hk => hb.block k (own_lt' h.oa hk), own_same h.ob fun k hk => hb.block k (own_lt' h.ob hk), h.ne, below_trans h.below hb⟩
theorem Sh.drewN (h : Sh w0 G w s va vb a b) (m : Nat) : Sh w0 G (w.drewN m) s va vb a b := h.keep ⟨rfl, rfl, rfl, Nat.le_refl _, fun _ _ => rfl⟩
theorem Sh.call (h : Sh w0 G w s va vb a b) {s' : PSt Int} (h1 : Apart K enc w0.heap.size G w' s' (fun k => va.ownBlock = some k ∨ vb.ownBlock = some k)) (h2 : Below w0.heap.size w w') (h3 : ∀ k, (va.ownBlock = some k ∨ vb.ownBlock = some k) → w'.heap[k]? = w.heap[k]?) : Sh w0 G w' s' va vb a b :=
  ⟨h1, own_same h.oa fun k hk => h3 k (.inl hk), own_same h.ob fun k hk => h3 k (.inr hk), h.ne, h.below.trans h2⟩
theorem sh_new (W : World) (p z : Nat) (hp : 1 ≤ p ∧ p ≤ 256) (hz : 1 ≤ z ∧ z ≤ 64) : Calls Try.prog 10 #[.int .i64 (p : Int), .int .i64 (z : Int)] W fun e w' => e = .returned (.tuple #[.pointer (some ⟨W.heap.size + 2, 0, none⟩), .int .i64 0]) ∧ Sh W (W.heap.size + 2) w' (emptyP Int p z) (.slice none 0 0) (.slice none 0 0) [] [] := by
  refine (new_good W p z hp hz).mono ?_
  rintro e w' ⟨rfl, rfl⟩
  refine ⟨rfl, (Apart.of_held (Held.fresh K enc W p z) (freshW_below _ _ _ _).size (fun k hk => freshR_lt _ _ hk)).weaken ?_, World.ownsRow_nil _ _ _ _, World.ownsRow_nil _ _ _ _, ?_, freshW_below _ _ _ _⟩
  · rintro k (hk | hk) <;> simp [Value.ownBlock] at hk
  · intro g hg; simp [Value.ownBlock] at hg
theorem sh_open (h : Sh w0 G w s va vb a b) (hi : Inv s) : Calls Try.prog 14 #[.pointer (some ⟨G, 0, none⟩)] w fun e w' =>
    e = .returned (.tuple #[.int .i64 (s.open_ [] 0).2.1, .int .i64 (s.open_ [] 0).2.2]) ∧ Sh w0 G w' (s.open_ [] 0).1 va vb a b := by
  obtain ⟨ρ, L, p, rfl, c, d⟩ := h.ap
  exact (open_any p hi).mono fun e w' ⟨h1, h2⟩ => ⟨h1, have h3 := Apart.step h.lt h.below.size ⟨ρ, L, rfl, c, d, h2⟩; h.call h3.1 h3.2.1 h3.2.2⟩
theorem sh_append (h : Sh w0 G w s va vb a b) (hi : Inv s) (id x : Int) : Calls Try.prog 15 #[.pointer (some ⟨G, 0, none⟩), .int .i64 id, .int .i64 x] w fun e w' =>
    e = .returned (.int .i64 (s.append id x).2) ∧ Sh w0 G w' (s.append id x).1 va vb a b := by
  exact (apart_append h.ap hi h.below.size h.lt id x).mono fun e w' ⟨h1, h2, h3, h4⟩ => ⟨h1, h.call h2 h3 h4⟩
theorem sh_share (h : Sh w0 G w s va vb a b) (hi : Inv s) (id n : Int) : Calls Try.prog 17 #[.pointer (some ⟨G, 0, none⟩), .int .i64 id, .int .i64 n] w fun e w' =>
    e = .returned (.tuple #[.int .i64 (s.share id n).2.1, .int .i64 (s.share id n).2.2]) ∧ Sh w0 G w' (s.share id n).1 va vb a b := by
  obtain ⟨ρ, L, p, rfl, c, d⟩ := h.ap
  exact (share_any p hi id n).mono fun e w' ⟨h1, h2⟩ => ⟨h1, have h3 := Apart.step h.lt h.below.size ⟨ρ, L, rfl, c, d, h2⟩; h.call h3.1 h3.2.1 h3.2.2⟩
theorem sh_close (h : Sh w0 G w s va vb a b) (hi : Inv s) (id : Int) : Calls Try.prog 12 #[.pointer (some ⟨G, 0, none⟩), .int .i64 id] w fun e w' =>
    e = .returned (.int .i64 (s.close id).2) ∧ Sh w0 G w' (s.close id).1 va vb a b := by
  obtain ⟨ρ, L, p, rfl, c, d⟩ := h.ap
  exact (close_any p hi id).mono fun e w' ⟨h1, h2⟩ => ⟨h1, have h3 := Apart.step h.lt h.below.size ⟨ρ, L, rfl, c, d, h2⟩; h.call h3.1 h3.2.1 h3.2.2⟩
theorem sh_free (h : Sh w0 G w s va vb a b) (hi : Inv s) : Calls Try.prog 13 #[.pointer (some ⟨G, 0, none⟩)] w fun e w' => e = .returned (.int .i64 (s.free : Int)) ∧ Sh w0 G w' s va vb a b :=
  (apart_free h.ap hi).mono fun e w' ⟨h1, h2⟩ => ⟨h1, h.keep h2⟩
theorem sh_row (h : Sh w0 G w s va vb a b) (hi : Inv s) (id : Int) (hl : (s.all 0 id).length ≤ 2000) : Calls Try.prog 16 #[.pointer (some ⟨G, 0, none⟩), .int .i64 id] w fun e w' => ∃ v, e = .returned (.tuple #[v, .bool true]) ∧ RdI w' v (s.all 0 id) ∧ Below w.heap.size w w' ∧ Sh w0 G w' s va vb a b :=
  (apart_row h.ap hi id hl).mono fun e w' ⟨v, h1, h2⟩ => ⟨v, h1, RdI.of_own h2.own, h2.below, h.keep h2.below⟩
/-- An append to the first list. -/
theorem Sh.app0 (h : Sh w0 G w s va vb a b) {wx w9 : World} {o : Obj} (h1 : wx.heap = w.heap) (h2 : wx.os = w.os) (h3 : wx.tape = w.tape) (h4 : wx.output = w.output) {v' : Value} {x : Int} {n : Nat} (hn : a.length = n) (ho : w9.ownsRow w0.heap.size 3 1 v' (n + 1) (a.map encI ++ [.int .i64 x])) (hg : (wx.alloc o).grownBy w9 va.ownBlock) (hv : v'.ownBlock = va.ownBlock ∨ v'.ownBlock = some (wx.alloc o).heap.size) :
    Sh w0 G w9 s v' vb (a ++ [x]) b := by
  have hb := below_lit h1 h2 h3 h4 o
  have hs : w.heap.size < (wx.alloc o).heap.size := by simp [h1]
  have hF : ∀ k, k < w.heap.size → va.ownBlock ≠ some k → w9.heap[k]? = w.heap[k]? := fun k hk hne => (hg.block k (Nat.lt_of_lt_of_le hk hb.size) (fun e => hne e.symm)).trans (hb.block k hk)
  refine ⟨(h.ap.grew h.below.size h.lt hb hg (fun g hg => .inl hg)).weaken ?_, ?_, own_same h.ob fun k hk => hF k (own_lt' h.ob hk) (fun e => h.ne k e hk), ?_, ?_⟩
  · rintro k (hk | hk)
    · rcases hv with e | e
      · exact .inl (.inl (e.symm.trans hk))
      · rw [e] at hk; injection hk with hk; exact .inr (by omega)
    · exact .inl (.inr hk)
  · subst hn; rw [List.length_append, List.map_append]; exact ho
  · intro g hk
    rcases hv with e | e
    · exact h.ne g (e.symm.trans hk)
    · rw [e] at hk; injection hk with hk
      intro hc
      have := own_lt' h.ob hc
      omega
  · refine ⟨hg.os.trans (hb.os.trans h.below.os), hg.tape.trans (hb.tape.trans h.below.tape), hg.output.trans (hb.output.trans h.below.output), Nat.le_trans h.below.size (Nat.le_trans hb.size hg.size), fun k hk => (hF k (Nat.lt_of_lt_of_le hk h.below.size) ?_).trans (h.below.block k hk)⟩
    intro e
    have := (h.oa.lt k e).1
    omega
theorem Sh.swap (h : Sh w0 G w s va vb a b) : Sh w0 G w s vb va b a :=
  ⟨h.ap.weaken fun k hk => hk.symm, h.ob, h.oa, fun g h1 h2 => h.ne g h2 h1, h.below⟩
/-- An append to the other one. -/
theorem Sh.app1 (h : Sh w0 G w s va vb a b) {wx w9 : World} {o : Obj} (h1 : wx.heap = w.heap) (h2 : wx.os = w.os) (h3 : wx.tape = w.tape) (h4 : wx.output = w.output) {v' : Value} {x : Int} {n : Nat} (hn : b.length = n) (ho : w9.ownsRow w0.heap.size 3 1 v' (n + 1) (b.map encI ++ [.int .i64 x])) (hg : (wx.alloc o).grownBy w9 vb.ownBlock) (hv : v'.ownBlock = vb.ownBlock ∨ v'.ownBlock = some (wx.alloc o).heap.size) :
    Sh w0 G w9 s va v' a (b ++ [x]) := (h.swap.app0 h1 h2 h3 h4 hn ho hg hv).swap
end
theorem RdA.below {W w : World} {v : Value} {xs : List Int} (h : RdA W v xs) (hb : Below W.heap.size W w) : RdA w v xs :=
  ⟨h.form, fun j x hj => by
    obtain ⟨ad, cap, h1, h2⟩ := h.cell j x hj
    exact ⟨ad, cap, h1, (World.cell?_of_block (a := ad.add j) (hb.block _ (block_lt_of_cell h2))).trans h2⟩⟩
theorem _root_.Go.Proofs.Ytackjeckafoojaa.Kv.RdI.below {W w : World} {v : Value} {xs : List Int} (h : RdI W v xs) (hb : Below W.heap.size W w) : RdI w v xs :=
  ⟨h.form, fun j x hj => by
    obtain ⟨g, cap, h1, h2⟩ := h.cell j x hj
    exact ⟨g, cap, h1, (World.cell?_of_block (a := ⟨g, j, none⟩) (hb.block _ (block_lt_of_cell h2))).trans h2⟩⟩
theorem _root_.Go.Proofs.Ytackjeckafoojaa.Kv.RdI.drewN {W : World} {v : Value} {xs : List Int} (h : RdI W v xs) (m : Nat) : RdI (W.drewN m) v xs := h.below ⟨rfl, rfl, rfl, Nat.le_refl _, fun _ _ => rfl⟩
theorem ints_same {W : World} {v1 v2 : Value} {xs : List Int} (h1 : RdI W v1 xs) (h2 : RdI W v2 xs) (hn : xs.length ≤ 1000000) : Calls Try.prog 18 #[v1, v2] W fun e w' => e = .returned (.bool true) ∧ ∃ m, w' = W.drewN m :=
  (ints_run h1 h2 hn).mono fun e w' h => ⟨h.1.trans (by rw [decide_eq_true (Eq.refl xs)]), h.2⟩
theorem RdA.at {W : World} {ad : Addr} {n c : Nat} {xs : List Int} (h : RdA W (.slice (some ad) n c) xs) {j : Nat} {x : Int} (hx : xs[j]? = some x) : W.cell? (ad.add j) = some (.int .i64 x) := by
  obtain ⟨ad', cap', e, h1⟩ := h.cell j x hx
  injection e with e1
  injection e1 with e1
  subst e1
  exact h1
/-- 0, 1, .., n - 1. -/
def upTo (n : Nat) : List Int := (List.range n).map fun i : Nat => (i : Int)
theorem upTo_length (n : Nat) : (upTo n).length = n := by simp [upTo]
theorem upTo_succ (n : Nat) : upTo n ++ [(n : Int)] = upTo (n + 1) := by simp [upTo, List.range_succ]
/-- What the walk reads of its arguments. -/
structure ShEnv (W w : World) (p z c d : Int) (v0 v1 : Value) : Prop where
  below : Below W.heap.size W w
  size : W.heap.size + 3 ≤ w.heap.size
  b3 : w.heap[W.heap.size]? = some (.cells #[.int .i64 p, .int .i64 z] 22 (0, 0))
  b4 : w.heap[W.heap.size + 1]? = some (.cells #[.int .i64 c, .int .i64 d] 22 (0, 0))
  b5 : w.heap[W.heap.size + 1 + 1]? = some (.cells #[v0, v1] 46 (0, 0))
theorem ShEnv.keep {W w w' : World} {p z c d : Int} {v0 v1 : Value} {B : Nat} (h : ShEnv W w p z c d v0 v1) (hB : W.heap.size + 3 ≤ B) (hb : Below B w w') : ShEnv W w' p z c d v0 v1 :=
  ⟨h.below.trans (hb.mono (by omega)), Nat.le_trans h.size hb.size, (hb.block _ (by omega)).trans h.b3, (hb.block _ (by omega)).trans h.b4, (hb.block _ (by omega)).trans h.b5⟩
theorem ShEnv.cells {W w : World} {p z c d : Int} {v0 v1 : Value} (h : ShEnv W w p z c d v0 v1) :
    w.cell? ⟨W.heap.size, 0, none⟩ = some (.int .i64 p) ∧ w.cell? ⟨W.heap.size, 1, none⟩ = some (.int .i64 z) ∧ w.cell? ⟨W.heap.size + 1, 0, none⟩ = some (.int .i64 c) ∧ w.cell? ⟨W.heap.size + 1, 1, none⟩ = some (.int .i64 d) ∧
    w.cell? ⟨W.heap.size + 1 + 1, 0, none⟩ = some v0 ∧ w.cell? ⟨W.heap.size + 1 + 1, 1, none⟩ = some v1 := by
  refine ⟨?_, ?_, ?_, ?_, ?_, ?_⟩ <;> simp [World.cell?, h.b3, h.b4, h.b5]
end Go.Proofs.Ytackjeckafoojaa.KvI
