/- cupellaw11.Made: what stays in memory while a small model is made. -/
import Derived.Test.YtfhaebaegkpkhaaMdN
import Derived.Great.BuildSlice
set_option linter.unusedVariables false
set_option linter.unusedSimpArgs false
namespace Go.Proofs.Ytfhaebaegkpkhaa.Fil
open Go.RowKit OwnS Byt QTail Cfg Ten Bpe RevL
theorem below_off {W w : World} {g j : Nat} (h : Below W.heap.size W w) (hg : W.heap.size ≤ g) (u : Value) : Below W.heap.size W (w.setCell ⟨g, j, none⟩ u) := h.setCell (p := ⟨g, j, none⟩) hg u
/-- The blocks that Made begins with. -/
structure Frm (W w : World) (s : Sz) (fv : Value) (t : Nat) (row : List Value) : Prop where
  below : Below W.heap.size W w
  size : W.heap.size + 6 ≤ w.heap.size
  res : w.heap[W.heap.size + 1]? = some (.cells zeroL.toArray 31 (0, 0))
  cfg : w.heap[W.heap.size + 3]? = some (.cells [Value.int .i64 (s.v : Int), .int .i64 (s.d : Int), .int .i64 (s.h : Int), .int .i64 (s.l : Int), .int .i64 (s.c : Int), .int .i64 (s.x : Int)].toArray 23 (0, 0))
  fil : w.heap[W.heap.size + 4]? = some (.cells [fv, .int .i64 (t : Int)].toArray 146 (0, 0))
  mod : w.heap[W.heap.size + 5]? = some (.cells row.toArray 31 (0, 0))
theorem Frm.filAt {W w : World} {s : Sz} {fv : Value} {t : Nat} {row : List Value} {fill : List Int} (x : Frm W w s fv t row) (hs : Ints W fv fill) (h1 : 1 ≤ fill.length) : FilAt w (W.heap.size + 4) fv fill t :=
  ⟨x.fil, hs.new x.below, fun k hk => by have := Sees.lt hs hk (by rw [intsV_length]; omega); omega⟩
theorem Frm.els {W w w' : World} {s : Sz} {fv : Value} {t t' : Nat} {row : List Value} {fill : List Int} (x : Frm W w s fv t row) (e : Else (W.heap.size + 4) w w') (f : FilAt w' (W.heap.size + 4) fv fill t') : Frm W w' s fv t' row := by
  have hz := x.size
  exact ⟨x.below.trans (e.below.mono (by omega)), Nat.le_trans x.size e.below.size, (e.same _ (by omega) (by omega)).trans x.res, (e.same _ (by omega) (by omega)).trans x.cfg, f.blk, (e.same _ (by omega) (by omega)).trans x.mod⟩
theorem Frm.set {W w : World} {s : Sz} {fv : Value} {t : Nat} {row : List Value} (x : Frm W w s fv t row) (j : Nat) (u : Value) : Frm W (w.setCell ⟨W.heap.size + 5, j, none⟩ u) s fv t (row.set j u) :=
  ⟨below_off x.below (by omega) u, by simpa using x.size, (Below.heap_setCell _ _ _ _ (by simp)).trans x.res, (Below.heap_setCell _ _ _ _ (by simp)).trans x.cfg, (Below.heap_setCell _ _ _ _ (by simp)).trans x.fil, set_cells x.mod j u⟩
theorem Frm.alloc {W w : World} {s : Sz} {fv : Value} {t : Nat} {row : List Value} (x : Frm W w s fv t row) (o : Obj) : Frm W (w.alloc o) s fv t row := by
  have hz := x.size
  exact ⟨x.below.alloc x.below.size _, by simp; omega, (Below.heap_alloc _ _ _ (by omega)).trans x.res, (Below.heap_alloc _ _ _ (by omega)).trans x.cfg, (Below.heap_alloc _ _ _ (by omega)).trans x.fil, (Below.heap_alloc _ _ _ (by omega)).trans x.mod⟩
theorem Frm.grown {W w w' : World} {s : Sz} {fv : Value} {t : Nat} {row : List Value} {N : Option Nat} (x : Frm W w s fv t row) (hg : w.grownBy w' N) (hN : ∀ k, N = some k → W.heap.size + 6 ≤ k) : Frm W w' s fv t row := by
  have hz := x.size
  have hk : ∀ k, k < W.heap.size + 6 → w'.heap[k]? = w.heap[k]? := fun k hk => hg.block k (by omega) (fun e => by have := hN k e.symm; omega)
  exact ⟨x.below.grown hg x.below.size (fun k e => by have := hN k e; omega), Nat.le_trans x.size hg.size, (hk _ (by omega)).trans x.res, (hk _ (by omega)).trans x.cfg, (hk _ (by omega)).trans x.fil, (hk _ (by omega)).trans x.mod⟩
/-- Data of one's own beside a block that is appended to. -/
structure Dat (base : Nat) (N : Option Nat) (w : World) (v : Value) (n : Nat) (xs : List Value) : Prop where
  own : Owns w base 1 v n xs
  ne : ∀ b, v.ownBlock = some b → some b ≠ N
theorem Dat.els {base F : Nat} {N : Option Nat} {w w' : World} {v : Value} {n : Nat} {xs : List Value} (x : Dat base N w v n xs) (hF : F < base) (e : Else F w w') : Dat base N w' v n xs :=
  ⟨x.own.same (fun b hb => e.same b (x.own.lt b hb).2 (by have := (x.own.lt b hb).1; omega)) e.below.size, x.ne⟩
theorem Dat.set {base g j : Nat} {N : Option Nat} {w : World} {v : Value} {n : Nat} {xs : List Value} (x : Dat base N w v n xs) (hg : g < base) (u : Value) : Dat base N (w.setCell ⟨g, j, none⟩ u) v n xs :=
  ⟨x.own.setCell (a := ⟨g, j, none⟩) (fun b hb => by have := (x.own.lt b hb).1; simp; omega) u, x.ne⟩
theorem Dat.grown {base : Nat} {N N' : Option Nat} {w w' : World} {o : Obj} {v : Value} {n : Nat} {xs : List Value} (x : Dat base N w v n xs) (hg : (w.alloc o).grownBy w' N) (hN : N' = N ∨ N' = some (w.alloc o).heap.size) : Dat base N' w' v n xs := by
  refine ⟨(x.own.alloc o).kept hg x.ne, fun b hb => ?_⟩
  rcases hN with rfl | rfl
  · exact x.ne b hb
  · have := (x.own.lt b hb).2
    simp
    omega
theorem Dat.free {base : Nat} {N : Option Nat} {w : World} {v : Value} {n : Nat} {xs : List Value} (x : Dat base none w v n xs) (hN : ∀ b, v.ownBlock = some b → some b ≠ N) : Dat base N w v n xs := ⟨x.own, hN⟩
/-- A layer's data. -/
structure LayDat (base : Nat) (N : Option Nat) (w : World) (p : Lay × LayH) : Prop where
  n1 : Dat base N w p.2.n1 p.1.n1.length (intsV p.1.n1)
  q : Dat base N w p.2.q p.1.q.l.length (intsV p.1.q.l)
  k : Dat base N w p.2.k p.1.k.l.length (intsV p.1.k.l)
  v : Dat base N w p.2.v p.1.v.l.length (intsV p.1.v.l)
  o : Dat base N w p.2.o p.1.o.l.length (intsV p.1.o.l)
  n2 : Dat base N w p.2.n2 p.1.n2.length (intsV p.1.n2)
  g : Dat base N w p.2.g p.1.g.l.length (intsV p.1.g.l)
  u : Dat base N w p.2.u p.1.u.l.length (intsV p.1.u.l)
  d : Dat base N w p.2.d p.1.d.l.length (intsV p.1.d.l)
theorem LayDat.els {base F : Nat} {N : Option Nat} {w w' : World} {p : Lay × LayH} (x : LayDat base N w p) (hF : F < base) (e : Else F w w') : LayDat base N w' p :=
  ⟨x.n1.els hF e, x.q.els hF e, x.k.els hF e, x.v.els hF e, x.o.els hF e, x.n2.els hF e, x.g.els hF e, x.u.els hF e, x.d.els hF e⟩
theorem LayDat.set {base g j : Nat} {N : Option Nat} {w : World} {p : Lay × LayH} (x : LayDat base N w p) (hg : g < base) (u : Value) : LayDat base N (w.setCell ⟨g, j, none⟩ u) p :=
  ⟨x.n1.set hg u, x.q.set hg u, x.k.set hg u, x.v.set hg u, x.o.set hg u, x.n2.set hg u, x.g.set hg u, x.u.set hg u, x.d.set hg u⟩
theorem LayDat.grown {base : Nat} {N N' : Option Nat} {w w' : World} {o : Obj} {p : Lay × LayH} (x : LayDat base N w p) (hg : (w.alloc o).grownBy w' N) (hN : N' = N ∨ N' = some (w.alloc o).heap.size) : LayDat base N' w' p :=
  ⟨x.n1.grown hg hN, x.q.grown hg hN, x.k.grown hg hN, x.v.grown hg hN, x.o.grown hg hN, x.n2.grown hg hN, x.g.grown hg hN, x.u.grown hg hN, x.d.grown hg hN⟩
theorem LayDat.sees {base : Nat} {N : Option Nat} {w : World} {p : Lay × LayH} (x : LayDat base N w p) : LaySees w p.1 p.2 :=
  ⟨x.n1.own.sees, x.q.own.sees, x.k.own.sees, x.v.own.sees, x.o.own.sees, x.n2.own.sees, x.g.own.sees, x.u.own.sees, x.d.own.sees⟩
/-- What a layer is made of, while it is made. -/
structure Bod (F : Nat) (wr w : World) (Lb : Nat) (lrow : List Value) (ds : List (Value × List Int)) : Prop where
  els : Else F wr w
  lb0 : wr.heap.size ≤ Lb
  lb : w.heap[Lb]? = some (.cells lrow.toArray 56 (0, 0))
  own : ∀ p ∈ ds, Owns w wr.heap.size 1 p.1 p.2.length (intsV p.2) ∧ ∀ b, p.1.ownBlock = some b → b ≠ Lb
theorem Bod.call {F : Nat} {wr w w' : World} {Lb : Nat} {lrow : List Value} {ds : List (Value × List Int)} (x : Bod F wr w Lb lrow ds) (hF : F < wr.heap.size) (e : Else F w w') {v : Value} {l : List Int} (ho : Owns w' w.heap.size 1 v l.length (intsV l)) : Bod F wr w' Lb lrow (ds ++ [(v, l)]) := by
  have hlb : Lb < w.heap.size := (Array.getElem?_eq_some_iff.1 x.lb).1
  have hlF := x.lb0
  refine ⟨x.els.trans e, x.lb0, (e.same _ hlb (by omega)).trans x.lb, fun p hp => ?_⟩
  rcases List.mem_append.1 hp with hp | hp
  · obtain ⟨h1, h2⟩ := x.own p hp
    exact ⟨h1.same (fun b hb => e.same b (h1.lt b hb).2 (by have := (h1.lt b hb).1; omega)) e.below.size, h2⟩
  · rw [List.mem_singleton] at hp
    subst hp
    exact ⟨ho.mono x.els.below.size, fun b hb => by have := (ho.lt b hb).1; omega⟩
theorem Bod.set {F : Nat} {wr w : World} {Lb : Nat} {lrow : List Value} {ds : List (Value × List Int)} (x : Bod F wr w Lb lrow ds) (hF : F ≤ Lb) (j : Nat) (u : Value) : Bod F wr (w.setCell ⟨Lb, j, none⟩ u) Lb (lrow.set j u) ds :=
  ⟨x.els.setAt x.lb0 hF j u, x.lb0, set_cells x.lb j u, fun p hp => ⟨(x.own p hp).1.setCell (a := ⟨Lb, j, none⟩) (fun b hb => (x.own p hp).2 b hb) u, (x.own p hp).2⟩⟩
/-- The beginning: a first vector, and the layer's variable. -/
theorem Bod.first {F : Nat} {wr w : World} (e : Else F wr w) (hF : F < wr.heap.size) {v : Value} {l : List Int} (ho : Owns w wr.heap.size 1 v l.length (intsV l)) (lrow : List Value) : Bod F wr (w.alloc (.cells lrow.toArray 56)) w.heap.size lrow [(v, l)] := by
  refine ⟨⟨e.below.alloc (Nat.le_trans (Nat.le_of_lt hF) e.below.size) _, fun k hk hne => (Below.heap_alloc _ _ _ (Nat.lt_of_lt_of_le hk e.below.size)).trans (e.same k hk hne)⟩, e.below.size, heap_alloc_new w _, fun p hp => ?_⟩
  rw [List.mem_singleton] at hp
  subst hp
  exact ⟨ho.alloc _, fun b hb => by have := (ho.lt b hb).2; omega⟩
/-- The cells of a model while it is made. -/
def rowG (s : Sz) (al er ec em ls no or oc ou : Value) : List Value := [.int .i64 (s.v : Int), .int .i64 (s.d : Int), .int .i64 (s.h : Int), .int .i64 (s.l : Int), .int .i64 (s.c : Int), .int .i64 (s.x : Int), al, .slice none 0 0, er, ec, em, ls, no, or, oc, ou]
def alph (n : Nat) : List Nat := (List.range n).map fun i => 97 + i
theorem alph_succ (n : Nat) : alph (n + 1) = alph n ++ [97 + n] := by unfold alph; rw [List.range_succ, List.map_append]; rfl
theorem alph_length (n : Nat) : (alph n).length = n := by simp [alph]
end Go.Proofs.Ytfhaebaegkpkhaa.Fil
namespace Go.Proofs.Ytfhaebaegkpkhaa.Fil
open Go.RowKit OwnS Byt QTail Cfg Ten Bpe RevL
/-- While the layers are made. -/
structure Lys (W w : World) (s : Sz) (fv : Value) (fill : List Int) (t0 : Nat) (va ve : Value) (i : Nat) (vl : Value) (H : List (Lay × LayH)) : Prop where
  frm : Frm W w s fv (t0 + i * layStep s.d s.x) (rowG s va (.int .i64 (s.v : Int)) (.int .i64 (s.d : Int)) ve vl (.slice none 0 0) (.int .i64 0) (.int .i64 0) (.slice none 0 0))
  al : Dat (W.heap.size + 6) vl.ownBlock w va s.v (bytesV (alph s.v))
  em : Dat (W.heap.size + 6) vl.ownBlock w ve t0 (intsV (nextL fill 0 t0))
  lays : H.map (·.1) = laysAt fill s.d s.x t0 i
  ls : Owns w (W.heap.size + 6) 23 vl i (H.map layC).flatten
  dat : ∀ p ∈ H, LayDat (W.heap.size + 6) vl.ownBlock w p
/-- The nine lists of a layer that is made. -/
theorem Bod.lay {F base : Nat} {N : Option Nat} {wr w : World} {Lb : Nat} {lrow : List Value} {L : Lay} {h : LayH} (x : Bod F wr w Lb lrow [(h.n1, L.n1), (h.q, L.q.l), (h.k, L.k.l), (h.v, L.v.l), (h.o, L.o.l), (h.n2, L.n2), (h.g, L.g.l), (h.u, L.u.l), (h.d, L.d.l)]) (hb : base ≤ wr.heap.size) (hN : ∀ k, N = some k → k < wr.heap.size) : LayDat base N w (L, h) := by
  have key : ∀ p ∈ [(h.n1, L.n1), (h.q, L.q.l), (h.k, L.k.l), (h.v, L.v.l), (h.o, L.o.l), (h.n2, L.n2), (h.g, L.g.l), (h.u, L.u.l), (h.d, L.d.l)], Dat base N w p.1 p.2.length (intsV p.2) := fun p hp => by
    obtain ⟨h1, h2⟩ := x.own p hp
    exact ⟨h1.mono hb, fun b hb' e => by have := (h1.lt b hb').1; have := hN b e.symm; omega⟩
  exact ⟨key (h.n1, L.n1) (by simp), key (h.q, L.q.l) (by simp), key (h.k, L.k.l) (by simp), key (h.v, L.v.l) (by simp), key (h.o, L.o.l) (by simp), key (h.n2, L.n2) (by simp), key (h.g, L.g.l) (by simp), key (h.u, L.u.l) (by simp), key (h.d, L.d.l) (by simp)⟩
def layZ : Value := .agg #[.slice none 0 0, .int .i64 0, .int .i64 0, .slice none 0 0, .int .i64 0, .int .i64 0, .slice none 0 0, .int .i64 0, .int .i64 0, .slice none 0 0, .int .i64 0, .int .i64 0, .slice none 0 0, .slice none 0 0, .int .i64 0, .int .i64 0, .slice none 0 0, .int .i64 0, .int .i64 0, .slice none 0 0, .int .i64 0, .int .i64 0, .slice none 0 0]
theorem infoL : ElemInfo Try.prog 56 layZ 23 328 := elemInfo (by kernel_rfl) rfl rfl
theorem lay_size' : (Try.prog.info? 56).map (·.size) = some 23 := by kernel_rfl
theorem src_lay {w : World} {g : Nat} (cs : List Value) (hl : cs.length = 23) (h1 : ∀ u ∈ cs, u.oneCell' = true) (h : w.rangeAt g 0 cs) : Src Try.prog 23 29 (.slice (some ⟨g, 0, none⟩) 1 1) 1 cs w :=
  Src.ofSlice w Try.underlying29 ⟨g, 0, none⟩ 1 1 cs (by rw [hl]) (fun j u hj => by rw [add_lit]; exact h j u hj) h1
end Go.Proofs.Ytfhaebaegkpkhaa.Fil
namespace Go.Proofs.Ytfhaebaegkpkhaa.Fil
open Go.RowKit OwnS Byt QTail Cfg Ten Bpe RevL
theorem FilAt.off {w : World} {F g j : Nat} {v : Value} {fill : List Int} {t : Nat} (x : FilAt w F v fill t) (hg : g ≠ F) (hv : ∀ b, v.ownBlock = some b → b ≠ g) (u : Value) : FilAt (w.setCell ⟨g, j, none⟩ u) F v fill t :=
  ⟨(Below.heap_setCell _ _ _ _ (by simpa using hg.symm)).trans x.blk, x.sees.same (fun b hb _ => Below.heap_setCell _ _ _ _ (hv b hb)), x.ne⟩
theorem layStep_le (d x : Nat) (hd : d = 2 ∨ d = 4) (hx : x ≤ 4) : layStep d x ≤ 200 := by unfold layStep; rcases hd with rfl | rfl <;> omega
/-- What is handed back when a model is made. -/
structure MdD (W w : World) (s : Sz) (fill : List Int) (va ve vl vn vo : Value) (H : List (Lay × LayH)) : Prop where
  al : Owns w (W.heap.size + 6) 1 va s.v (bytesV (alph s.v))
  em : Owns w (W.heap.size + 6) 1 ve (s.v * s.d) (intsV (nextL fill 0 (s.v * s.d)))
  lays : H.map (·.1) = laysAt fill s.d s.x (s.v * s.d) s.l
  ls : Owns w (W.heap.size + 6) 23 vl s.l (H.map layC).flatten
  dat : ∀ p ∈ H, LayDat (W.heap.size + 6) none w p
  norm : Owns w (W.heap.size + 6) 1 vn s.d (intsV (nextL fill (s.v * s.d + s.l * layStep s.d s.x) s.d))
  out : Owns w (W.heap.size + 6) 1 vo (s.v * s.d) (intsV (nextL fill (s.v * s.d + s.l * layStep s.d s.x + s.d) (s.v * s.d)))
theorem MdD.sees {W w : World} {s : Sz} {fill : List Int} {va ve vl vn vo : Value} {H : List (Lay × LayH)} (x : MdD W w s fill va ve vl vn vo H) (hs : s.v ≤ 100) : ModSees w (madeM s fill) ⟨va, .slice none 0 0, ve, vl, vn, vo⟩ H := by
  refine ⟨?_, ?_, ⟨none, 0, rfl⟩, ?_, ?_, ?_, ?_, ?_, fun p hp => (x.dat p hp).sees⟩
  · show Sees w 1 va (alph s.v).length _
    rw [alph_length]
    exact x.al.sees
  · intro y hy
    obtain ⟨i, hi, rfl⟩ := List.mem_map.1 (show y ∈ (List.range s.v).map fun i => 97 + i from hy)
    have := List.mem_range.1 hi
    omega
  · show Sees w 1 ve (nextL fill 0 (s.v * s.d)).length _
    rw [nextL_length]
    exact x.em.sees
  · show Sees w 1 vn (nextL fill _ s.d).length _
    rw [nextL_length]
    exact x.norm.sees
  · show Sees w 1 vo (nextL fill _ (s.v * s.d)).length _
    rw [nextL_length]
    exact x.out.sees
  · exact x.lays.symm
  · have hl : H.length = s.l := by have := congrArg List.length x.lays; rw [List.length_map, laysAt_length] at this; exact this
    rw [hl]
    exact x.ls.sees
theorem Dat.kp {base : Nat} {N : Option Nat} {w w' : World} {v : Value} {n : Nat} {xs : List Value} (x : Dat base N w v n xs) (h : ∀ k, base ≤ k → k < w.heap.size → w'.heap[k]? = w.heap[k]?) (hs : w.heap.size ≤ w'.heap.size) : Dat base N w' v n xs :=
  ⟨x.own.same (fun b hb => h b (x.own.lt b hb).1 (x.own.lt b hb).2) hs, x.ne⟩
theorem Dat.no {base : Nat} {N : Option Nat} {w : World} {v : Value} {n : Nat} {xs : List Value} (x : Dat base N w v n xs) : Dat base none w v n xs := ⟨x.own, fun b _ h => by cases h⟩
theorem LayDat.kp {base : Nat} {N : Option Nat} {w w' : World} {p : Lay × LayH} (x : LayDat base N w p) (h : ∀ k, base ≤ k → k < w.heap.size → w'.heap[k]? = w.heap[k]?) (hs : w.heap.size ≤ w'.heap.size) : LayDat base N w' p :=
  ⟨x.n1.kp h hs, x.q.kp h hs, x.k.kp h hs, x.v.kp h hs, x.o.kp h hs, x.n2.kp h hs, x.g.kp h hs, x.u.kp h hs, x.d.kp h hs⟩
theorem LayDat.no {base : Nat} {N : Option Nat} {w : World} {p : Lay × LayH} (x : LayDat base N w p) : LayDat base none w p :=
  ⟨x.n1.no, x.q.no, x.k.no, x.v.no, x.o.no, x.n2.no, x.g.no, x.u.no, x.d.no⟩
theorem MdD.kp {W w w' : World} {s : Sz} {fill : List Int} {va ve vl vn vo : Value} {H : List (Lay × LayH)} (x : MdD W w s fill va ve vl vn vo H) (h : ∀ k, W.heap.size + 6 ≤ k → k < w.heap.size → w'.heap[k]? = w.heap[k]?) (hs : w.heap.size ≤ w'.heap.size) : MdD W w' s fill va ve vl vn vo H := by
  have key : ∀ {size n : Nat} {v : Value} {xs : List Value}, Owns w (W.heap.size + 6) size v n xs → Owns w' (W.heap.size + 6) size v n xs := fun o => o.same (fun b hb => h b (o.lt b hb).1 (o.lt b hb).2) hs
  exact ⟨key x.al, key x.em, x.lays, key x.ls, fun p hp => (x.dat p hp).kp h hs, key x.norm, key x.out⟩
theorem laySees_same {w w' : World} {p : Lay × LayH} {base F : Nat} {N : Option Nat} (x : LayDat base N w p) (hF : F < base) (e : Else F w w') : LayDat base N w' p := x.els hF e
end Go.Proofs.Ytfhaebaegkpkhaa.Fil
namespace Go.Proofs.Ytfhaebaegkpkhaa.Fil
open Go.RowKit OwnS Byt QTail Cfg Ten Bpe RevL
def layZL : List Value := [.slice none 0 0, .int .i64 0, .int .i64 0, .slice none 0 0, .int .i64 0, .int .i64 0, .slice none 0 0, .int .i64 0, .int .i64 0, .slice none 0 0, .int .i64 0, .int .i64 0, .slice none 0 0, .slice none 0 0, .int .i64 0, .int .i64 0, .slice none 0 0, .int .i64 0, .int .i64 0, .slice none 0 0, .int .i64 0, .int .i64 0, .slice none 0 0]
/-- A layer's cells are stored whole. -/
theorem wpList_store_lay {w : World} {ops : Array Oper} {rest : List Oper} {o : Oper} {a : Act} {Q : Exit → Act → World → Prop} (hgd : o.guard = none) (x y : Operand) (ho : o.op = .store 56 x y) (g : Nat) (hx : a.eval x = .pointer (some ⟨g, 0, none⟩)) (L : List Value) (hy : a.eval y = .agg L.toArray) (hL : L.length = 23) (h1 : ∀ u ∈ L, u.oneCell' = true)
    (D0 : List Value) (hg : w.heap[g]? = some (.cells D0.toArray 56 (0, 0))) (h0 : D0.length = 23) (h : wpList Try.prog ops Q rest (a.put o.dst undef) (w.setRow g L.toArray)) : wpList Try.prog ops Q (o :: rest) a w :=
  wpList_store_row hgd 56 x y ho g L.toArray hx hy 56 D0.toArray hg (by rw [lay_size', List.size_toArray, hL]) (by rw [List.size_toArray, List.size_toArray, h0, hL]) (all_oneCell_toArray h1) h
theorem setRow_size (w : World) (g : Nat) (cs : Array Value) : (w.setRow g cs).heap.size = w.heap.size := by simp [World.setRow]
/-- The beginning, where the variable was made first and then stored whole. -/
theorem Bod.first' {F : Nat} {wr w : World} (e : Else F wr w) (hF : F < wr.heap.size) {v : Value} {l : List Int} (ho : Owns w wr.heap.size 1 v l.length (intsV l)) (z lrow : List Value) : Bod F wr ((w.alloc (.cells z.toArray 56)).setRow w.heap.size lrow.toArray) w.heap.size lrow [(v, l)] := by
  have hs := e.below.size
  have hne : ∀ k, k < w.heap.size → ((w.alloc (.cells z.toArray 56)).setRow w.heap.size lrow.toArray).heap[k]? = w.heap[k]? := fun k hk => (setRow_other _ _ _ _ (by omega)).trans (Below.heap_alloc _ _ _ hk)
  refine ⟨⟨below_setRow (e.below.alloc (Nat.le_trans (Nat.le_of_lt hF) hs) _) _ _ (by omega), fun k hk hn => (hne k (by omega)).trans (e.same k hk hn)⟩, hs, setRow_heap _ _ _ _ _ _ (heap_alloc_new w _), fun p hp => ?_⟩
  rw [List.mem_singleton] at hp
  subst hp
  exact ⟨ho.same (fun b hb => hne b (ho.lt b hb).2) (by rw [setRow_size]; simp), fun b hb => by have := (ho.lt b hb).2; omega⟩
theorem FilAt.row {w : World} {F : Nat} {v : Value} {fill : List Int} {t : Nat} (x : FilAt w F v fill t) (z lrow : List Value) : FilAt ((w.alloc (.cells z.toArray 56)).setRow w.heap.size lrow.toArray) F v fill t := by
  have hF : F < w.heap.size := (Array.getElem?_eq_some_iff.1 x.blk).1
  exact x.keep (below_setRow ((Below.refl _ _).alloc (Nat.le_refl _) _) _ _ (Nat.le_refl _))
end Go.Proofs.Ytfhaebaegkpkhaa.Fil
namespace Go.Proofs.Ytfhaebaegkpkhaa.Fil
open Go.RowKit OwnS Byt QTail Cfg Ten Bpe RevL
/-- A slice of one layer is built. -/
theorem run_build_lay (w : World) (C : List Value) (hC : C.length = 23) : (Instr.buildSlice 29 1 #[(0, .agg C.toArray)]).run Try.prog w = .ok (.slice (some ⟨w.heap.size, 0, none⟩) 1 1) (w.alloc (.cells C.toArray 56)) := by
  obtain ⟨i, hi, hz, hs, -, hzs, -⟩ := infoL
  refine run_buildSlice w 29 56 1 _ _ i _ Try.underlying29 hi hz (by rw [hs]; omega) (by rw [hs]; omega) ?_
  rw [hs]
  have := Great.fill_whole (s := 23) (by omega) [.agg C.toArray] ((Array.range (1 * 23)).map (layZ.cells[· % layZ.cells.size]!)) (fun v hv => by
    rw [List.mem_singleton] at hv
    subst hv
    show C.toArray.size = 23
    rw [List.size_toArray, hC]) (by simp)
  simpa [Value.cells] using this
theorem wpList_build_lay {w : World} {ops : Array Oper} {rest : List Oper} {o : Oper} {a : Act} {Q : Exit → Act → World → Prop} (hgd : o.guard = none) (x : Operand) (ho : o.op = .buildSlice 29 1 #[(0, x)]) (C : List Value) (hx : a.eval x = .agg C.toArray) (hC : C.length = 23)
    (h : wpList Try.prog ops Q rest (a.put o.dst (.slice (some ⟨w.heap.size, 0, none⟩) 1 1)) (w.alloc (.cells C.toArray 56))) : wpList Try.prog ops Q (o :: rest) a w :=
  wpList_plain hgd fun _ hK => by
    unfold Oper.wp execOp
    simp only [ho, List.map_toArray, List.map_cons, List.map_nil, hx, Sem.run_bind, run_build_lay w C hC, Result.andThen_ok]
    exact hK _ _ h
/-- A small model made. -/
def MdYes (W : World) (fill : List Int) (s : Sz) (e : Ending) (w' : World) : Prop := ∃ h H, e = .returned (.tuple #[.agg (modC (madeM s fill) h).toArray, .bool ((madeM s fill).err == 0)]) ∧ ModSees w' (madeM s fill) h H ∧ Below W.heap.size W w'
end Go.Proofs.Ytfhaebaegkpkhaa.Fil
