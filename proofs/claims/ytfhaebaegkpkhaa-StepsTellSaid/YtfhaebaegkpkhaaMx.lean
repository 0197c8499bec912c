/- steps.matrix: the matrix of a layer, by kind. -/
import Derived.Test.YtfhaebaegkpkhaaByt
import Derived.Test.YtfhaebaegkpkhaaModAt
import Derived.Test.YtfhaebaegkpkhaaQTail
set_option linter.unusedVariables false
set_option linter.unusedSimpArgs false
namespace Go.Proofs.Ytfhaebaegkpkhaa.Fil
open Go.RowKit OwnS Byt Cfg QTail
attribute [local go_sem ↓] Kit.execOp_call_slot
attribute [local go_sem] Kit.callSlot_func
def layM (L : Lay) (k : Int) : Mat := if k = 3 then L.q else if k = 4 then L.k else if k = 5 then L.v else if k = 6 then L.o else if k = 8 then L.g else if k = 9 then L.u else L.d
def layV (h : LayH) (k : Int) : Value := if k = 3 then h.q else if k = 4 then h.k else if k = 5 then h.v else if k = 6 then h.o else if k = 8 then h.g else if k = 9 then h.u else h.d
theorem mat_layM (M : Mod) (k i : Int) (h1 : k ≠ 1) (h2 : k ≠ 12) : M.mat k i = layM (M.lay i) k := by
  unfold Mod.mat layM
  rw [if_neg h1, if_neg h2]
theorem LaySees.mat {w : World} {L : Lay} {h : LayH} (x : LaySees w L h) (k : Int) : Ints w (layV h k) (layM L k).l := by
  unfold layV layM
  repeat' split
  · exact x.q
  · exact x.k
  · exact x.v
  · exact x.o
  · exact x.g
  · exact x.u
  · exact x.d
def isMat (k : Int) : Prop := k = 3 ∨ k = 4 ∨ k = 5 ∨ k = 6 ∨ k = 8 ∨ k = 9 ∨ k = 10
set_option maxRecDepth 100000 in
set_option maxHeartbeats 4000000 in
theorem mx_any (W : World) (L : Lay) (h : LayH) (x : LaySees W L h) (k : Int) (hk : isMat k) :
    Calls Try.prog 72 #[.agg (layC (L, h)).toArray, .int .i64 k] W fun e w' => e = .returned (.tuple #[.agg #[.int .i64 (layM L k).rows, .int .i64 (layM L k).cols, layV h k], .bool true]) ∧ Below W.heap.size W w' := by
  obtain ⟨m, hm⟩ : ∃ m, m = layM L k := ⟨_, rfl⟩
  obtain ⟨hv, hhv⟩ : ∃ hv, hv = layV h k := ⟨_, rfl⟩
  rw [← hm, ← hhv]
  obtain ⟨a1, b1, f1, -, -⟩ := Sees.form x.q
  obtain ⟨a2, b2, f2, -, -⟩ := Sees.form x.k
  obtain ⟨a3, b3, f3, -, -⟩ := Sees.form x.v
  obtain ⟨a4, b4, f4, -, -⟩ := Sees.form x.o
  obtain ⟨a5, b5, f5, -, -⟩ := Sees.form x.g
  obtain ⟨a6, b6, f6, -, -⟩ := Sees.form x.u
  obtain ⟨a7, b7, f7, -, -⟩ := Sees.form x.d
  obtain ⟨n1, ⟨qr, qc, ql⟩, ⟨kr, kc, kl⟩, ⟨vr, vc, vl⟩, ⟨or, oc, ol⟩, n2, ⟨gr, gc, gl⟩, ⟨ur, uc, ul⟩, ⟨dr, dc, dl⟩⟩ := L
  obtain ⟨hn1, hq, hkk, hv', ho, hn2, hg, hu, hd⟩ := h
  simp only at f1 f2 f3 f4 f5 f6 f7
  subst f1 f2 f3 f4 f5 f6 f7
  obtain ⟨m1, e1⟩ : ∃ n, n = ql.length := ⟨_, rfl⟩
  obtain ⟨m2, e2⟩ : ∃ n, n = kl.length := ⟨_, rfl⟩
  obtain ⟨m3, e3⟩ : ∃ n, n = vl.length := ⟨_, rfl⟩
  obtain ⟨m4, e4⟩ : ∃ n, n = ol.length := ⟨_, rfl⟩
  obtain ⟨m5, e5⟩ : ∃ n, n = gl.length := ⟨_, rfl⟩
  obtain ⟨m6, e6⟩ : ∃ n, n = ul.length := ⟨_, rfl⟩
  obtain ⟨m7, e7⟩ : ∃ n, n = dl.length := ⟨_, rfl⟩
  rw [← e1, ← e2, ← e3, ← e4, ← e5, ← e6, ← e7] at hhv ⊢
  have HM := Lib.hid (And.intro hm hhv)
  clear x e1 e2 e3 e4 e5 e6 e7 hm hhv
  unfold layC
  simp only
  rcases hk with rfl | rfl | rfl | rfl | rfl | rfl | rfl
  all_goals
    obtain ⟨rfl, rfl⟩ := HM.out
    clear HM
    simp only [layM, layV, Int.reduceEq, if_true, if_false, reduceIte]
    go_enter Try.func72, Try.ntmps72
    go_wp2_with fail
    refine bodyPost_ret ?_ rfl ⟨rfl, ((Below.refl _ _).alloc (Nat.le_refl _) _).alloc (by simp) _⟩
    simp [results, Try.f72, go_sem]
end Go.Proofs.Ytfhaebaegkpkhaa.Fil
