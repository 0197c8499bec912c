/- cupellaw11.Made: sizes that may be, 2 columns. Printed by genmdy.py. -/
import Derived.Test.YtfhaebaegkpkhaaMdS
import Derived.Test.YtfhaebaegkpkhaaQFork
set_option linter.unusedVariables false
set_option linter.unusedSimpArgs false
namespace Go.Proofs.Ytfhaebaegkpkhaa.Fil
open Go.RowKit OwnS Byt QTail Cfg Ten Bpe RevL
attribute [local go_sem ↓] Kit.execOp_call_slot
attribute [local go_sem] Kit.callSlot_func
set_option maxRecDepth 100000 in
set_option maxHeartbeats 16000000 in
theorem made_bad2 (W : World) (v hd l cx x : Nat) (A : Option Addr) (n c : Nat) (fill : List Int) (hf : Ints W (.slice A n c) fill) (hn : n = fill.length) (hs : Sz.ok ⟨v, 2, hd, l, cx, x⟩) (hl : 1 ≤ n ∧ n ≤ 80) (hbad : ¬ ∀ y ∈ fill, -16777216 ≤ y ∧ y ≤ 16777216) :
    Calls Try.prog 19 #[specV (v : Int) 2 (hd : Int) (l : Int) (cx : Int) (x : Int) (.slice A n c)] W (MdNo W) := by
  unfold specV MdNo
  obtain ⟨hs1, hs2, hs3, hs4, hs5, hs6, hs7⟩ := hs
  simp only at hs1 hs2 hs3 hs4 hs5 hs6 hs7
  have HF := Lib.hid (And.intro hf (And.intro hn hbad))
  clear hf hbad hn
  obtain ⟨s0, q0⟩ : ∃ s0 : Int, s0 = (v : Int) := ⟨_, rfl⟩
  obtain ⟨s2, q2⟩ : ∃ s2 : Int, s2 = (hd : Int) := ⟨_, rfl⟩
  obtain ⟨s3, q3⟩ : ∃ s3 : Int, s3 = (l : Int) := ⟨_, rfl⟩
  obtain ⟨s4, q4⟩ : ∃ s4 : Int, s4 = (cx : Int) := ⟨_, rfl⟩
  obtain ⟨s5, q5⟩ : ∃ s5 : Int, s5 = (x : Int) := ⟨_, rfl⟩
  rw [← q0, ← q2, ← q3, ← q4, ← q5]
  have b0 : ¬ s0 < 2 := by omega
  have b1 : ¬ 12 < s0 := by omega
  have b4 : ¬ s2 < 1 := by omega
  have b5 : ¬ 2 < s2 := by omega
  have b6 : (2 * s2 == 0) = false := by simp; omega
  have b7 : (s2 * 2 == 0) = false := by simp; omega
  have b8 : ((2 : Int) % (2 * s2) != 0) = false := by
    have h8 : hd = 1 ∨ hd = 2 := by omega
    rcases h8 with rfl | rfl
    · rw [q2]; rfl
    · rw [q2]; first | rfl | (exfalso; revert hs4; decide)
  have b9 : ¬ s3 < 1 := by omega
  have b10 : ¬ 2 < s3 := by omega
  have b11 : ¬ s4 < 2 := by omega
  have b12 : ¬ 8 < s4 := by omega
  have b13 : ¬ s5 < 1 := by omega
  have b14 : ¬ 4 < s5 := by omega
  have b15 : ¬ (n : Int) < 1 := by omega
  have b16 : ¬ 80 < (n : Int) := by omega
  have b17 : ¬ n = 0 := by omega
  have HL := Lib.hid (And.intro hl (And.intro hs1 (And.intro hs2 (And.intro hs3 (And.intro hs4 (And.intro hs5 (And.intro hs6 hs7)))))))
  have HQ := Lib.hid (And.intro q0 (And.intro q2 (And.intro q3 (And.intro q4 q5))))
  clear hs1 hs2 hs3 hs4 hs5 hs6 hs7 hl q0 q2 q3 q4 q5
  go_enter Try.func19, Try.ntmps19
  go_upto_region 1 with fail
  change Code.wp _ _ _ _ ((W.alloc (.cells #[.int .i64 s0, .int .i64 2, .int .i64 s2, .int .i64 s3, .int .i64 s4, .int .i64 s5, .slice A n c] 49)).alloc (.cells zeroL.toArray 31))
  obtain ⟨w1, hw1⟩ : ∃ w1, w1 = (W.alloc (.cells #[.int .i64 s0, .int .i64 2, .int .i64 s2, .int .i64 s3, .int .i64 s4, .int .i64 s5, .slice A n c] 49)).alloc (.cells zeroL.toArray 31) := ⟨_, rfl⟩
  rw [← hw1]
  have hb : w1.heap[W.heap.size]? = some (.cells [.int .i64 s0, .int .i64 2, .int .i64 s2, .int .i64 s3, .int .i64 s4, .int .i64 s5, .slice A n c].toArray 49 (0, 0)) := by rw [hw1]; rw [Below.heap_alloc _ _ _ (by simp)]; exact heap_alloc_new W _
  have hb2 : w1.heap[W.heap.size + 1]? = some (.cells zeroL.toArray 31 (0, 0)) := by
    rw [hw1]
    have := heap_alloc_new (W.alloc (.cells #[.int .i64 s0, .int .i64 2, .int .i64 s2, .int .i64 s3, .int .i64 s4, .int .i64 s5, .slice A n c] 49)) (.cells zeroL.toArray 31)
    simpa using this
  have hbe : Below W.heap.size W w1 := by rw [hw1]; exact ((Below.refl _ _).alloc (Nat.le_refl _) _).alloc (by simp) _
  have hsz : w1.heap.size = W.heap.size + 2 := by rw [hw1]; simp
  have c0 : w1.cell? ⟨W.heap.size, 0, none⟩ = some (.int .i64 s0) := by rw [cell_of_row _ _ 0 _ _ _ hb]; rfl
  have c1 : w1.cell? ⟨W.heap.size, 1, none⟩ = some (.int .i64 2) := by rw [cell_of_row _ _ 1 _ _ _ hb]; rfl
  have c2 : w1.cell? ⟨W.heap.size, 2, none⟩ = some (.int .i64 s2) := by rw [cell_of_row _ _ 2 _ _ _ hb]; rfl
  have c3 : w1.cell? ⟨W.heap.size, 3, none⟩ = some (.int .i64 s3) := by rw [cell_of_row _ _ 3 _ _ _ hb]; rfl
  have c4 : w1.cell? ⟨W.heap.size, 4, none⟩ = some (.int .i64 s4) := by rw [cell_of_row _ _ 4 _ _ _ hb]; rfl
  have c5 : w1.cell? ⟨W.heap.size, 5, none⟩ = some (.int .i64 s5) := by rw [cell_of_row _ _ 5 _ _ _ hb]; rfl
  have H1 := Lib.hid (And.intro hb (And.intro hb2 (And.intro hbe hsz)))
  clear hw1 hb hb2 hbe hsz
  go_upto_region 2 with fail
  simp only [List.append]
  rw [H1.out.2.2.2]
  obtain ⟨w2, hw2⟩ : ∃ w2, w2 = w1.alloc (.cells #[.int .i64 s0, .int .i64 2, .int .i64 s2, .int .i64 s3, .int .i64 s4, .int .i64 s5] 47) := ⟨_, rfl⟩
  rw [← hw2]
  have hb2 : Below w1.heap.size w1 w2 := by rw [hw2]; exact (Below.refl _ _).alloc (Nat.le_refl _) _
  have hz := (hb2.block _ (Array.getElem?_eq_some_iff.1 H1.out.2.1).1).trans H1.out.2.1
  have ha : w2.heap[W.heap.size + 2]? = some (.cells [.int .i64 s0, .int .i64 2, .int .i64 s2, .int .i64 s3, .int .i64 s4, .int .i64 s5].toArray 47 (0, 0)) := by rw [hw2, ← H1.out.2.2.2]; exact heap_alloc_new w1 _
  have a0 : w2.cell? ⟨W.heap.size + 2, 0, none⟩ = some (.int .i64 s0) := by rw [cell_of_row _ _ 0 _ _ _ ha]; rfl
  have a1 : w2.cell? ⟨W.heap.size + 2, 1, none⟩ = some (.int .i64 2) := by rw [cell_of_row _ _ 1 _ _ _ ha]; rfl
  have a2 : w2.cell? ⟨W.heap.size + 2, 2, none⟩ = some (.int .i64 s2) := by rw [cell_of_row _ _ 2 _ _ _ ha]; rfl
  have a3 : w2.cell? ⟨W.heap.size + 2, 3, none⟩ = some (.int .i64 s3) := by rw [cell_of_row _ _ 3 _ _ _ ha]; rfl
  have a4 : w2.cell? ⟨W.heap.size + 2, 4, none⟩ = some (.int .i64 s4) := by rw [cell_of_row _ _ 4 _ _ _ ha]; rfl
  have a5 : w2.cell? ⟨W.heap.size + 2, 5, none⟩ = some (.int .i64 s5) := by rw [cell_of_row _ _ 5 _ _ _ ha]; rfl
  have a6 : w2.cell? ⟨W.heap.size, 6, none⟩ = some (.slice A n c) := by rw [cell_of_row _ _ 6 _ _ _ ((hb2.block _ (Array.getElem?_eq_some_iff.1 H1.out.1).1).trans H1.out.1)]; rfl
  have hsz2 : w2.heap.size = W.heap.size + 3 := by rw [hw2]; have := H1.out.2.2.2; simp; omega
  have H2 := Lib.hid (And.intro hz (And.intro (below_chain H1.out.2.2.1 hb2) hsz2))
  clear hw2 hb2 hz ha c0 c1 c2 c3 c4 c5 hsz2
  go_upto_region 4 with fail
  clear b0 b1 b4 b5 b6 b7 b8 b9 b10 b11 b12 b13 b14 b15 b16
  obtain ⟨rfl, rfl, rfl, rfl, rfl⟩ := HQ.out
  clear HQ
  go_wp2_with fail
  go_loopw [5] (fun i wr => ∃ k : Nat, k ≤ n ∧ i = .int .i64 k ∧ Hid ((∀ j y, j < k → fill[j]? = some y → -16777216 ≤ y ∧ y ≤ 16777216) ∧ wr = w2)) (fun i _ => n - (intOf i).toNat)
  case atStart => exact ⟨0, Nat.zero_le _, rfl, Lib.hid ⟨by intro j y hj; omega, rfl⟩⟩
  case round =>
    obtain ⟨k, hk, rfl, hI⟩ := hrel
    obtain ⟨hall, rfl⟩ := hI.out
    have HI := Lib.hid hall
    clear hI hall
    by_cases hlt : k < n
    · have hfw : Sees wr 1 (.slice A n c) n (intsV fill) := by
        have h7 := HF.out.1.new H2.out.2.1
        unfold Ints at h7
        rw [← HF.out.2.1] at h7
        exact h7
      obtain ⟨g, o, rfl⟩ := some_addr hfw (by omega)
      obtain ⟨y, hy⟩ : ∃ y, fill[k]? = some y := ⟨_, List.getElem?_eq_getElem (by have := HF.out.2.1; omega)⟩
      have ce := Sees.int hfw hy
      have HY := Lib.hid (And.intro hy hfw)
      clear hy hfw
      have i1 : (k : Int) < (n : Int) := by omega
      have i3 : (0 : Int) ≤ (k : Int) := by omega
      have i2 : (k : Int) ≤ 80 := by have := HL.out.1; omega
      by_cases g1 : y < -16777216
      · go_upto_region 8 with fail
        go_wp2_with (refine wpList_store_wts rfl (.tmp 2) (.tmp 115) rfl (W.heap.size + 1) rfl zeroL rfl rfl zeroL_one zeroL H2.out.1 rfl ?_)
        refine bodyPost_ret (results_wts (by rfl) _ _ (W.heap.size + 1) zeroL (by rfl) (setRow_heap _ _ _ _ _ _ H2.out.1) rfl) rfl ⟨rfl, ?_⟩
        exact below_setRow H2.out.2.1 _ _ (by omega)
      · by_cases g2 : 16777216 < y
        · go_upto_region 8 with fail
          go_wp2_with (refine wpList_store_wts rfl (.tmp 2) (.tmp 115) rfl (W.heap.size + 1) rfl zeroL rfl rfl zeroL_one zeroL H2.out.1 rfl ?_)
          refine bodyPost_ret (results_wts (by rfl) _ _ (W.heap.size + 1) zeroL (by rfl) (setRow_heap _ _ _ _ _ _ H2.out.1) rfl) rfl ⟨rfl, ?_⟩
          exact below_setRow H2.out.2.1 _ _ (by omega)
        · go_wp2_with fail
          go_roundw
          case rel =>
            refine ⟨k + 1, by omega, by go_num, fun j u hj hu => ?_, trivial⟩
            by_cases hjk : j = k
            · subst hjk
              have := HY.out.1.symm.trans hu
              injection this with this
              subst this
              omega
            · exact HI.out j u (by omega) hu
          case measure => simp [intOf]; omega
    · obtain rfl : k = n := by omega
      exfalso
      refine HF.out.2.2 fun y hy => ?_
      obtain ⟨j, hj, e⟩ := List.getElem_of_mem hy
      exact HI.out j y (by have := HF.out.2.1; omega) (by rw [List.getElem?_eq_getElem hj, e])
set_option maxRecDepth 100000 in
set_option maxHeartbeats 32000000 in
theorem made_yes2 (W : World) (v hd l cx x : Nat) (A : Option Addr) (n c : Nat) (fill : List Int) (hf : Ints W (.slice A n c) fill) (hn : n = fill.length) (hs : Sz.ok ⟨v, 2, hd, l, cx, x⟩) (hl : 1 ≤ n ∧ n ≤ 80) (hall : ∀ y ∈ fill, -16777216 ≤ y ∧ y ≤ 16777216) :
    Calls Try.prog 19 #[specV (v : Int) 2 (hd : Int) (l : Int) (cx : Int) (x : Int) (.slice A n c)] W (MdYes W fill ⟨v, 2, hd, l, cx, x⟩) := by
  unfold specV
  obtain ⟨hs1, hs2, hs3, hs4, hs5, hs6, hs7⟩ := hs
  simp only at hs1 hs2 hs3 hs4 hs5 hs6 hs7
  have HF := Lib.hid (And.intro hf (And.intro hn hall))
  clear hf hall hn
  obtain ⟨s0, q0⟩ : ∃ s0 : Int, s0 = (v : Int) := ⟨_, rfl⟩
  obtain ⟨s2, q2⟩ : ∃ s2 : Int, s2 = (hd : Int) := ⟨_, rfl⟩
  obtain ⟨s3, q3⟩ : ∃ s3 : Int, s3 = (l : Int) := ⟨_, rfl⟩
  obtain ⟨s4, q4⟩ : ∃ s4 : Int, s4 = (cx : Int) := ⟨_, rfl⟩
  obtain ⟨s5, q5⟩ : ∃ s5 : Int, s5 = (x : Int) := ⟨_, rfl⟩
  rw [← q0, ← q2, ← q3, ← q4, ← q5]
  have b0 : ¬ s0 < 2 := by omega
  have b1 : ¬ 12 < s0 := by omega
  have b4 : ¬ s2 < 1 := by omega
  have b5 : ¬ 2 < s2 := by omega
  have b6 : (2 * s2 == 0) = false := by simp; omega
  have b7 : (s2 * 2 == 0) = false := by simp; omega
  have b8 : ((2 : Int) % (2 * s2) != 0) = false := by
    have h8 : hd = 1 ∨ hd = 2 := by omega
    rcases h8 with rfl | rfl
    · rw [q2]; rfl
    · rw [q2]; first | rfl | (exfalso; revert hs4; decide)
  have b9 : ¬ s3 < 1 := by omega
  have b10 : ¬ 2 < s3 := by omega
  have b11 : ¬ s4 < 2 := by omega
  have b12 : ¬ 8 < s4 := by omega
  have b13 : ¬ s5 < 1 := by omega
  have b14 : ¬ 4 < s5 := by omega
  have b15 : ¬ (n : Int) < 1 := by omega
  have b16 : ¬ 80 < (n : Int) := by omega
  have b17 : ¬ n = 0 := by omega
  have HL := Lib.hid (And.intro hl (And.intro hs1 (And.intro hs2 (And.intro hs3 (And.intro hs4 (And.intro hs5 (And.intro hs6 hs7)))))))
  have HQ := Lib.hid (And.intro q0 (And.intro q2 (And.intro q3 (And.intro q4 q5))))
  clear hs1 hs2 hs3 hs4 hs5 hs6 hs7 hl q0 q2 q3 q4 q5
  go_enter Try.func19, Try.ntmps19
  go_upto_region 1 with fail
  change Code.wp _ _ _ _ ((W.alloc (.cells #[.int .i64 s0, .int .i64 2, .int .i64 s2, .int .i64 s3, .int .i64 s4, .int .i64 s5, .slice A n c] 49)).alloc (.cells zeroL.toArray 31))
  obtain ⟨w1, hw1⟩ : ∃ w1, w1 = (W.alloc (.cells #[.int .i64 s0, .int .i64 2, .int .i64 s2, .int .i64 s3, .int .i64 s4, .int .i64 s5, .slice A n c] 49)).alloc (.cells zeroL.toArray 31) := ⟨_, rfl⟩
  rw [← hw1]
  have hb : w1.heap[W.heap.size]? = some (.cells [.int .i64 s0, .int .i64 2, .int .i64 s2, .int .i64 s3, .int .i64 s4, .int .i64 s5, .slice A n c].toArray 49 (0, 0)) := by rw [hw1]; rw [Below.heap_alloc _ _ _ (by simp)]; exact heap_alloc_new W _
  have hb2 : w1.heap[W.heap.size + 1]? = some (.cells zeroL.toArray 31 (0, 0)) := by
    rw [hw1]
    have := heap_alloc_new (W.alloc (.cells #[.int .i64 s0, .int .i64 2, .int .i64 s2, .int .i64 s3, .int .i64 s4, .int .i64 s5, .slice A n c] 49)) (.cells zeroL.toArray 31)
    simpa using this
  have hbe : Below W.heap.size W w1 := by rw [hw1]; exact ((Below.refl _ _).alloc (Nat.le_refl _) _).alloc (by simp) _
  have hsz : w1.heap.size = W.heap.size + 2 := by rw [hw1]; simp
  have c0 : w1.cell? ⟨W.heap.size, 0, none⟩ = some (.int .i64 s0) := by rw [cell_of_row _ _ 0 _ _ _ hb]; rfl
  have c1 : w1.cell? ⟨W.heap.size, 1, none⟩ = some (.int .i64 2) := by rw [cell_of_row _ _ 1 _ _ _ hb]; rfl
  have c2 : w1.cell? ⟨W.heap.size, 2, none⟩ = some (.int .i64 s2) := by rw [cell_of_row _ _ 2 _ _ _ hb]; rfl
  have c3 : w1.cell? ⟨W.heap.size, 3, none⟩ = some (.int .i64 s3) := by rw [cell_of_row _ _ 3 _ _ _ hb]; rfl
  have c4 : w1.cell? ⟨W.heap.size, 4, none⟩ = some (.int .i64 s4) := by rw [cell_of_row _ _ 4 _ _ _ hb]; rfl
  have c5 : w1.cell? ⟨W.heap.size, 5, none⟩ = some (.int .i64 s5) := by rw [cell_of_row _ _ 5 _ _ _ hb]; rfl
  have H1 := Lib.hid (And.intro hb (And.intro hb2 (And.intro hbe hsz)))
  clear hw1 hb hb2 hbe hsz
  go_upto_region 2 with fail
  simp only [List.append]
  rw [H1.out.2.2.2]
  obtain ⟨w2, hw2⟩ : ∃ w2, w2 = w1.alloc (.cells #[.int .i64 s0, .int .i64 2, .int .i64 s2, .int .i64 s3, .int .i64 s4, .int .i64 s5] 47) := ⟨_, rfl⟩
  rw [← hw2]
  have hb2 : Below w1.heap.size w1 w2 := by rw [hw2]; exact (Below.refl _ _).alloc (Nat.le_refl _) _
  have hz := (hb2.block _ (Array.getElem?_eq_some_iff.1 H1.out.2.1).1).trans H1.out.2.1
  have ha : w2.heap[W.heap.size + 2]? = some (.cells [.int .i64 s0, .int .i64 2, .int .i64 s2, .int .i64 s3, .int .i64 s4, .int .i64 s5].toArray 47 (0, 0)) := by rw [hw2, ← H1.out.2.2.2]; exact heap_alloc_new w1 _
  have a0 : w2.cell? ⟨W.heap.size + 2, 0, none⟩ = some (.int .i64 s0) := by rw [cell_of_row _ _ 0 _ _ _ ha]; rfl
  have a1 : w2.cell? ⟨W.heap.size + 2, 1, none⟩ = some (.int .i64 2) := by rw [cell_of_row _ _ 1 _ _ _ ha]; rfl
  have a2 : w2.cell? ⟨W.heap.size + 2, 2, none⟩ = some (.int .i64 s2) := by rw [cell_of_row _ _ 2 _ _ _ ha]; rfl
  have a3 : w2.cell? ⟨W.heap.size + 2, 3, none⟩ = some (.int .i64 s3) := by rw [cell_of_row _ _ 3 _ _ _ ha]; rfl
  have a4 : w2.cell? ⟨W.heap.size + 2, 4, none⟩ = some (.int .i64 s4) := by rw [cell_of_row _ _ 4 _ _ _ ha]; rfl
  have a5 : w2.cell? ⟨W.heap.size + 2, 5, none⟩ = some (.int .i64 s5) := by rw [cell_of_row _ _ 5 _ _ _ ha]; rfl
  have a6 : w2.cell? ⟨W.heap.size, 6, none⟩ = some (.slice A n c) := by rw [cell_of_row _ _ 6 _ _ _ ((hb2.block _ (Array.getElem?_eq_some_iff.1 H1.out.1).1).trans H1.out.1)]; rfl
  have hsz2 : w2.heap.size = W.heap.size + 3 := by rw [hw2]; have := H1.out.2.2.2; simp; omega
  have H2 := Lib.hid (And.intro hz (And.intro (below_chain H1.out.2.2.1 hb2) hsz2))
  clear hw2 hb2 hz ha c0 c1 c2 c3 c4 c5 hsz2
  go_upto_region 4 with fail
  clear b0 b1 b4 b5 b6 b7 b8 b9 b10 b11 b12 b13 b14 b15 b16
  obtain ⟨rfl, rfl, rfl, rfl, rfl⟩ := HQ.out
  clear HQ
  go_wp2_with fail
  go_loopw [5] (fun i wr => ∃ k : Nat, k ≤ n ∧ i = .int .i64 k ∧ Hid (wr = w2)) (fun i _ => n - (intOf i).toNat)
  case atStart => exact ⟨0, Nat.zero_le _, rfl, Lib.hid rfl⟩
  case round =>
    obtain ⟨k, hk, rfl, hI⟩ := hrel
    obtain rfl := hI.out
    clear hI
    by_cases hlt : k < n
    · have hfw : Sees wr 1 (.slice A n c) n (intsV fill) := by
        have h7 := HF.out.1.new H2.out.2.1
        unfold Ints at h7
        rw [← HF.out.2.1] at h7
        exact h7
      obtain ⟨g, o, rfl⟩ := some_addr hfw (by omega)
      obtain ⟨y, hy⟩ : ∃ y, fill[k]? = some y := ⟨_, List.getElem?_eq_getElem (by have := HF.out.2.1; omega)⟩
      have ce := Sees.int hfw hy
      have g1 : ¬ y < -16777216 := by have := HF.out.2.2 y (List.mem_of_getElem? hy); omega
      have g2 : ¬ 16777216 < y := by have := HF.out.2.2 y (List.mem_of_getElem? hy); omega
      clear hy hfw
      have i1 : (k : Int) < (n : Int) := by omega
      have i3 : (0 : Int) ≤ (k : Int) := by omega
      have i2 : (k : Int) ≤ 80 := by have := HL.out.1; omega
      go_wp2_with fail
      go_roundw
      case rel => exact ⟨k + 1, by omega, by go_num, trivial⟩
      case measure => simp [intOf]; omega
    · obtain rfl : k = n := by omega
      go_upto_region 10 with fail
      have hz2 := H2.out.2.2
      rw [hz2]
      obtain ⟨w3, hw3⟩ : ∃ w3, w3 = wr.alloc (.cells #[.int .i64 (v : Int), .int .i64 2, .int .i64 (hd : Int), .int .i64 (l : Int), .int .i64 (cx : Int), .int .i64 (x : Int)] 23) := ⟨_, rfl⟩
      rw [← hw3]
      have hb3 : Below wr.heap.size wr w3 := by rw [hw3]; exact (Below.refl _ _).alloc (Nat.le_refl _) _
      have hz3 : w3.heap.size = W.heap.size + 4 := by rw [hw3]; simp; omega
      have hc3 : w3.heap[W.heap.size + 3]? = some (.cells [Value.int .i64 (v : Int), .int .i64 2, .int .i64 (hd : Int), .int .i64 (l : Int), .int .i64 (cx : Int), .int .i64 (x : Int)].toArray 23 (0, 0)) := by rw [hw3, ← hz2]; exact heap_alloc_new wr _
      have e6 := (hb3.cell (block_lt_of_cell a6)).trans a6
      have d0 : w3.cell? ⟨W.heap.size + 3, 0, none⟩ = some (.int .i64 (v : Int)) := by rw [cell_of_row _ _ 0 _ _ _ hc3]; rfl
      have d1 : w3.cell? ⟨W.heap.size + 3, 1, none⟩ = some (.int .i64 2) := by rw [cell_of_row _ _ 1 _ _ _ hc3]; rfl
      have d2 : w3.cell? ⟨W.heap.size + 3, 2, none⟩ = some (.int .i64 (hd : Int)) := by rw [cell_of_row _ _ 2 _ _ _ hc3]; rfl
      have d3 : w3.cell? ⟨W.heap.size + 3, 3, none⟩ = some (.int .i64 (l : Int)) := by rw [cell_of_row _ _ 3 _ _ _ hc3]; rfl
      have d4 : w3.cell? ⟨W.heap.size + 3, 4, none⟩ = some (.int .i64 (cx : Int)) := by rw [cell_of_row _ _ 4 _ _ _ hc3]; rfl
      have d5 : w3.cell? ⟨W.heap.size + 3, 5, none⟩ = some (.int .i64 (x : Int)) := by rw [cell_of_row _ _ 5 _ _ _ hc3]; rfl
      have H3 := Lib.hid (And.intro hb3 (And.intro hz3 hc3))
      clear hw3 hb3 hc3 a0 a1 a2 a3 a4 a5 a6
      go_upto_region 11 with fail
      try rw [hz3]
      obtain ⟨w4, hw4⟩ : ∃ w4, w4 = w3.alloc (.cells #[.slice A k c, .int .i64 0] 146) := ⟨_, rfl⟩
      rw [← hw4]
      have hb4 : Below w3.heap.size w3 w4 := by rw [hw4]; exact (Below.refl _ _).alloc (Nat.le_refl _) _
      have hz4 : w4.heap.size = W.heap.size + 5 := by rw [hw4]; simp; omega
      have hc4 : w4.heap[W.heap.size + 4]? = some (.cells [Value.slice A k c, .int .i64 0].toArray 146 (0, 0)) := by rw [hw4, ← hz3]; exact heap_alloc_new w3 _
      have g0 := (hb4.cell (block_lt_of_cell d0)).trans d0
      have g1 := (hb4.cell (block_lt_of_cell d1)).trans d1
      have g2 := (hb4.cell (block_lt_of_cell d2)).trans d2
      have g3 := (hb4.cell (block_lt_of_cell d3)).trans d3
      have g4 := (hb4.cell (block_lt_of_cell d4)).trans d4
      have g5 := (hb4.cell (block_lt_of_cell d5)).trans d5
      have H4 := Lib.hid (And.intro hb4 (And.intro hz4 hc4))
      clear hw4 hb4 hc4 d0 d1 d2 d3 d4 d5 e6 hz2 hz3
      go_upto_region 12 with fail
      try rw [hz4]
      change Code.wp _ _ _ _ (w4.alloc (.cells (rowG ⟨v, 2, hd, l, cx, x⟩ (.slice none 0 0) (.int .i64 0) (.int .i64 0) (.slice none 0 0) (.slice none 0 0) (.slice none 0 0) (.int .i64 0) (.int .i64 0) (.slice none 0 0)).toArray 31))
      have frm : Frm W (w4.alloc (.cells (rowG ⟨v, 2, hd, l, cx, x⟩ (.slice none 0 0) (.int .i64 0) (.int .i64 0) (.slice none 0 0) (.slice none 0 0) (.slice none 0 0) (.int .i64 0) (.int .i64 0) (.slice none 0 0)).toArray 31)) ⟨v, 2, hd, l, cx, x⟩ (.slice A k c) 0 (rowG ⟨v, 2, hd, l, cx, x⟩ (.slice none 0 0) (.int .i64 0) (.int .i64 0) (.slice none 0 0) (.slice none 0 0) (.slice none 0 0) (.int .i64 0) (.int .i64 0) (.slice none 0 0)) := by
        have y2 := H2.out.2.2
        have y3 := H3.out.2.1
        have hb24 : Below wr.heap.size wr w4 := H3.out.1.trans (H4.out.1.mono (by omega))
        have hb25 := hb24.alloc hb24.size (.cells (rowG ⟨v, 2, hd, l, cx, x⟩ (.slice none 0 0) (.int .i64 0) (.int .i64 0) (.slice none 0 0) (.slice none 0 0) (.slice none 0 0) (.int .i64 0) (.int .i64 0) (.slice none 0 0)).toArray 31)
        refine ⟨below_chain H2.out.2.1 hb25, by simp; omega, (hb25.block _ (by omega)).trans H2.out.1, ?_, ?_, ?_⟩
        · rw [Below.heap_alloc _ _ _ (by omega)]
          exact (H4.out.1.block _ (by omega)).trans H3.out.2.2
        · rw [Below.heap_alloc _ _ _ (by omega)]
          exact H4.out.2.2
        · rw [← hz4]
          exact heap_alloc_new w4 _
      obtain ⟨w5, hw5⟩ : ∃ w5, w5 = w4.alloc (.cells (rowG ⟨v, 2, hd, l, cx, x⟩ (.slice none 0 0) (.int .i64 0) (.int .i64 0) (.slice none 0 0) (.slice none 0 0) (.slice none 0 0) (.int .i64 0) (.int .i64 0) (.slice none 0 0)).toArray 31) := ⟨_, rfl⟩
      rw [← hw5] at frm ⊢
      have H5 := Lib.hid frm
      clear frm hw5 hz4 g0 g1 g2 g3 g4 g5 H4 H3 H2 H1
      as_aux_lemma =>
        go_wp2_with fail
        go_loopw [9] (fun vi w6 => ∃ (i : Nat) (A6 : Option Addr) (c6 : Nat), i ≤ v ∧ vi = .int .i64 i ∧ Hid (Frm W w6 ⟨v, 2, hd, l, cx, x⟩ (.slice A k c) 0 (rowG ⟨v, 2, hd, l, cx, x⟩ (.slice A6 i c6) (.int .i64 0) (.int .i64 0) (.slice none 0 0) (.slice none 0 0) (.slice none 0 0) (.int .i64 0) (.int .i64 0) (.slice none 0 0)) ∧ Owns w6 (W.heap.size + 6) 1 (.slice A6 i c6) i (bytesV (alph i)))) (fun vi _ => v - (intOf vi).toNat)
        case atStart => exact ⟨0, none, 0, Nat.zero_le _, rfl, Lib.hid ⟨H5.out, Owns.nil _ _ _⟩⟩
        case round =>
          obtain ⟨i, A6, c6, hi, rfl, hI⟩ := hrel
          obtain ⟨hsv, hsv2⟩ := HL.out.2.1
          have c30 : wr.cell? ⟨W.heap.size + 3, 0, none⟩ = some (.int .i64 (v : Int)) := by rw [cell_of_row _ _ 0 _ _ _ hI.out.1.cfg]; rfl
          by_cases hlt6 : i < v
          · have c56 : wr.cell? ⟨W.heap.size + 5, 6, none⟩ = some (.slice A6 i c6) := by rw [cell_of_row _ _ 6 _ _ _ hI.out.1.mod]; rfl
            have f56 := frozen_of_row _ _ 6 _ _ hI.out.1.mod
            have i1 : (i : Int) < (v : Int) := by omega
            have i2 : (i : Int) ≤ 12 := by omega
            go_upto_region 15 with fail
            have hsrc : Src Try.prog 1 24 (.slice (some ⟨wr.heap.size, 0, none⟩) 1 1) 1 [.int .u8 (97 + (i : Int))] (wr.alloc (.cells #[.int .u8 (97 + (i : Int))] 5)) := src_one Try.underlying24 (by rw [cell_of_row _ _ 0 _ _ _ (heap_alloc_new wr _)]; rfl) rfl
            have HA := Lib.hid (And.intro (hI.out.2.alloc (.cells #[.int .u8 (97 + (i : Int))] 5)) (And.intro hsrc hI.out.1.size))
            clear hsrc
            go_wp2_with (at_builtin; refine wpList_append rfl (.tmp 142) (.tmp 146) 24 24 rfl (W.heap.size + 6) 5 _ 1 1 Try.underlying24 infoB _ i (bytesV (alph i)) rfl (by exact HA.out.1) _ 1 [.int .u8 (97 + (i : Int))] rfl (by exact HA.out.2.1) (by unfold maxLen; omega) (by omega) (by have := HA.out.2.2; rw [World.size_alloc]; omega) ?_; intro A7 c7 w7 hown7 hg7 hbl7; have frm7 := (hI.out.1.alloc (.cells #[.int .u8 (97 + (i : Int))] 5)).grown hg7 (fun k hk => (HA.out.1.lt k hk).1); have f76 := frozen_of_row _ _ 6 _ _ frm7.mod; have c76 : w7.cell? ⟨W.heap.size + 5, 6, none⟩ = some (.slice A6 i c6) := (cell_of_row _ _ 6 _ _ _ frm7.mod).trans rfl; have H7 := Lib.hid (And.intro frm7 hown7); clear hg7 hbl7 frm7 hown7 c56 f56 c30)
            go_roundw
            case rel =>
              refine ⟨i + 1, A7, c7, by omega, by go_num, H7.out.1.set 6 _, ?_⟩
              rw [alph_succ, bytesV_append]
              exact H7.out.2.setCell (a := ⟨W.heap.size + 5, 6, none⟩) (fun b hb => by have := (H7.out.2.lt b hb).1; simp; omega) _
            case measure => simp [intOf]; omega
          · obtain rfl : v = i := by omega
            have c31 : wr.cell? ⟨W.heap.size + 3, 1, none⟩ = some (.int .i64 2) := by rw [cell_of_row _ _ 1 _ _ _ hI.out.1.cfg]; rfl
            have hfl : 1 ≤ fill.length := by have := HF.out.2.1; have := HL.out.1; omega
            obtain ⟨m0, hm0⟩ : ∃ m, m = v * 2 := ⟨_, rfl⟩
            have hm1 : m0 ≤ 48 := by omega
            have hmx := matrix_any wr (W.heap.size + 4) (.slice A k c) fill 0 v 2 m0 (hI.out.1.filAt HF.out.1 hfl) hfl (by omega) (by omega) hm0.symm
            rw [show ((2 : Nat) : Int) = 2 from rfl] at hmx
            have HV : Hid (∀ b, (Value.slice A k c).ownBlock = some b → b < W.heap.size) := fun b hb => Sees.lt HF.out.1 hb (by rw [intsV_length]; omega)
            have HM := Lib.hid (And.intro hmx (And.intro hm0 (And.intro hfl hm1)))
            clear hmx hm0 hfl hm1
            go_upto_region 17 with (go_at_call 68; (with_reducible refine Calls.mono HM.out.1 ?_); rintro e w7 ⟨A7, k7, rfl, ho7, hf7, he7⟩; have frm7 := hI.out.1.els he7 hf7; have f78 := frozen_of_row _ _ 8 _ _ frm7.mod; have f79 := frozen_of_row _ _ 9 _ _ frm7.mod; have f70 := frozen_of_row _ _ 10 _ _ frm7.mod; have c78 : w7.cell? ⟨W.heap.size + 5, 8, none⟩ = some (.int .i64 0) := (cell_of_row _ _ 8 _ _ _ frm7.mod).trans rfl; have c79 : w7.cell? ⟨W.heap.size + 5, 9, none⟩ = some (.int .i64 0) := (cell_of_row _ _ 9 _ _ _ frm7.mod).trans rfl; have c70 : w7.cell? ⟨W.heap.size + 5, 10, none⟩ = some (.slice none 0 0) := (cell_of_row _ _ 10 _ _ _ frm7.mod).trans rfl; have H7 := Lib.hid (And.intro frm7 (And.intro ho7 he7)); clear frm7 ho7 hf7 he7 c30 c31)
            obtain ⟨w8, hw8⟩ : ∃ w8, w8 = ((w7.setCell ⟨W.heap.size + 5, 8, none⟩ (.int .i64 (v : Int))).setCell ⟨W.heap.size + 5, 9, none⟩ (.int .i64 2)).setCell ⟨W.heap.size + 5, 10, none⟩ (.slice A7 m0 k7) := ⟨_, rfl⟩
            rw [← hw8]
            have lys : Lys W w8 ⟨v, 2, hd, l, cx, x⟩ (.slice A k c) fill m0 (.slice A6 v c6) (.slice A7 m0 k7) 0 (.slice none 0 0) [] := by
              rw [hw8]
              have hz := hI.out.1.size
              refine ⟨?_, ?_, ?_, by simp [laysAt], Owns.nil _ _ _, by simp⟩
              · rw [show m0 + 0 * layStep 2 x = 0 + m0 by simp]
                exact ((H7.out.1.set 8 (.int .i64 (v : Int))).set 9 (.int .i64 2)).set 10 (.slice A7 m0 k7)
              · exact ((((⟨hI.out.2, fun b _ h => by cases h⟩ : Dat (W.heap.size + 6) none wr (.slice A6 v c6) v (bytesV (alph v))).els (F := W.heap.size + 4) (by omega) H7.out.2.2).set (by omega) _).set (by omega) _).set (by omega) _
              · exact (((⟨H7.out.2.1.mono hz, fun b _ h => by cases h⟩ : Dat (W.heap.size + 6) none w7 (.slice A7 m0 k7) m0 (intsV (nextL fill 0 m0))).set (by omega) _).set (by omega) _).set (by omega) _
            have H8 := Lib.hid lys
            have HM2 := Lib.hid HM.out.2
            clear lys hw8 f78 f79 f70 c78 c79 c70 H7 hI H5 HM
            clear wr w7 hi hlt6 hsv hsv2
            obtain ⟨va, hva⟩ : ∃ va, va = Value.slice A6 v c6 := ⟨_, rfl⟩
            obtain ⟨ve, hve⟩ : ∃ ve, ve = Value.slice A7 m0 k7 := ⟨_, rfl⟩
            rw [← hva, ← hve] at H8
            have HVV := Lib.hid (And.intro hva hve)
            clear hva hve
            as_aux_lemma =>
              go_wp2_with fail
              go_loopw [10] (fun vi w9 => ∃ (i : Nat) (A9 : Option Addr) (c9 : Nat), i ≤ l ∧ vi = .int .i64 i ∧ Hid (∃ H, Lys W w9 ⟨v, 2, hd, l, cx, x⟩ (.slice A k c) fill m0 va ve i (.slice A9 i c9) H)) (fun vi _ => l - (intOf vi).toNat)
              case atStart => exact ⟨0, none, 0, Nat.zero_le _, rfl, Lib.hid ⟨[], H8.out⟩⟩
              case round =>
                obtain ⟨i, A9, c9, hi9, rfl, hI9⟩ := hrel
                obtain ⟨H, lys⟩ := hI9.out
                have c33 : wr.cell? ⟨W.heap.size + 3, 3, none⟩ = some (.int .i64 (l : Int)) := by rw [cell_of_row _ _ 3 _ _ _ lys.frm.cfg]; rfl
                have hl2 := HL.out.2.2.2.2.2.1
                have hx2 := HL.out.2.2.2.2.2.2.2
                have HLy := Lib.hid lys
                clear lys hI9
                by_cases hlt9 : i < l
                · have i1 : (i : Int) < (l : Int) := by omega
                  have i2 : (i : Int) ≤ 2 := by omega
                  as_aux_lemma =>
                    obtain ⟨T, hT⟩ : ∃ T, T = m0 + i * layStep 2 x := ⟨_, rfl⟩
                    have hT9 : T ≤ 500 := by
                      have h1 := layStep_le 2 x (by decide) hx2.2
                      have h2 : i * layStep 2 x ≤ 1 * layStep 2 x := Nat.mul_le_mul_right _ (by omega)
                      have := HM2.out.2.2
                      omega
                    have hfl := HM2.out.2.1
                    have hF : W.heap.size + 4 < wr.heap.size := by have := HLy.out.frm.size; omega
                    have hcf : ∀ w, Else (W.heap.size + 4) wr w → w.heap[W.heap.size + 3]? = some (.cells [Value.int .i64 (v : Int), .int .i64 2, .int .i64 (hd : Int), .int .i64 (l : Int), .int .i64 (cx : Int), .int .i64 (x : Int)].toArray 23 (0, 0)) := fun w e => (e.same _ (by omega) (by omega)).trans HLy.out.frm.cfg
                    have hfa : FilAt wr (W.heap.size + 4) (.slice A k c) fill T := by rw [hT]; exact HLy.out.frm.filAt HF.out.1 hfl
                    have hnx := next_any wr (W.heap.size + 4) (.slice A k c) fill T 2 hfa hfl (by omega) (by omega)
                    rw [show ((2 : Nat) : Int) = 2 from rfl] at hnx
                    have q1 : wr.cell? ⟨W.heap.size + 3, 1, none⟩ = some (.int .i64 2) := by rw [cell_of_row _ _ 1 _ _ _ (hcf wr (Else.refl _ _))]; rfl
                    have HCF := Lib.hid (And.intro hcf (And.intro hF (And.intro hfl (And.intro hT hT9))))
                    have HN := Lib.hid hnx
                    clear hcf hF hfl hT hT9 hfa hnx
                    go_upto_region 21 with (first | (go_at_call 69; (with_reducible refine Calls.mono HN.out ?_); rintro e w20 ⟨A20, k20, rfl, ho20, hf20, he20⟩; have H20 := Lib.hid (And.intro ho20 (And.intro hf20 he20)); clear ho20 hf20 he20) | (refine wpList_store_lay rfl (.tmp 11) (.tmp 166) rfl w20.heap.size rfl [.slice A20 2 k20, .int .i64 0, .int .i64 0, .slice none 0 0, .int .i64 0, .int .i64 0, .slice none 0 0, .int .i64 0, .int .i64 0, .slice none 0 0, .int .i64 0, .int .i64 0, .slice none 0 0, .slice none 0 0, .int .i64 0, .int .i64 0, .slice none 0 0, .int .i64 0, .int .i64 0, .slice none 0 0, .int .i64 0, .int .i64 0, .slice none 0 0] rfl rfl (by simp [Value.oneCell']) layZL (heap_alloc_new w20 _) rfl ?_; simp only [Act.put]))
                    change Code.wp _ _ _ _ ((w20.alloc (.cells layZL.toArray 56)).setRow w20.heap.size [.slice A20 2 k20, .int .i64 0, .int .i64 0, .slice none 0 0, .int .i64 0, .int .i64 0, .slice none 0 0, .int .i64 0, .int .i64 0, .slice none 0 0, .int .i64 0, .int .i64 0, .slice none 0 0, .slice none 0 0, .int .i64 0, .int .i64 0, .slice none 0 0, .int .i64 0, .int .i64 0, .slice none 0 0, .int .i64 0, .int .i64 0, .slice none 0 0].toArray)
                    obtain ⟨w21, hw21⟩ : ∃ w21, w21 = (w20.alloc (.cells layZL.toArray 56)).setRow w20.heap.size [.slice A20 2 k20, .int .i64 0, .int .i64 0, .slice none 0 0, .int .i64 0, .int .i64 0, .slice none 0 0, .int .i64 0, .int .i64 0, .slice none 0 0, .int .i64 0, .int .i64 0, .slice none 0 0, .slice none 0 0, .int .i64 0, .int .i64 0, .slice none 0 0, .int .i64 0, .int .i64 0, .slice none 0 0, .int .i64 0, .int .i64 0, .slice none 0 0].toArray := ⟨_, rfl⟩
                    rw [← hw21]
                    have bd : Bod (W.heap.size + 4) wr w21 w20.heap.size [.slice A20 2 k20, .int .i64 0, .int .i64 0, .slice none 0 0, .int .i64 0, .int .i64 0, .slice none 0 0, .int .i64 0, .int .i64 0, .slice none 0 0, .int .i64 0, .int .i64 0, .slice none 0 0, .slice none 0 0, .int .i64 0, .int .i64 0, .slice none 0 0, .int .i64 0, .int .i64 0, .slice none 0 0, .int .i64 0, .int .i64 0, .slice none 0 0] [(.slice A20 2 k20, nextL fill T 2)] := by
                      rw [hw21]
                      exact Bod.first' H20.out.2.2 HCF.out.2.1 (by rw [nextL_length]; exact H20.out.1) _ _
                    have fl : FilAt w21 (W.heap.size + 4) (.slice A k c) fill (T + 2) := by rw [hw21]; exact H20.out.2.1.row _ _
                    obtain ⟨Lb, hLb⟩ : ∃ Lb, Lb = w20.heap.size := ⟨_, rfl⟩
                    rw [← hLb] at bd ⊢
                    have hFL : W.heap.size + 4 < Lb := by have := bd.lb0; have := HCF.out.2.1; omega
                    have HFL : Hid (W.heap.size + 4 < Lb ∧ ∀ b, (Value.slice A k c).ownBlock = some b → b ≠ Lb) := ⟨hFL, fun b hb => by have := HV.out b hb; omega⟩
                    have HB21 := Lib.hid (And.intro bd fl)
                    clear bd fl hw21 hLb hFL q1 H20 HN c33
                    clear w20
                    as_aux_lemma =>
                      have q1 : w21.cell? ⟨W.heap.size + 3, 1, none⟩ = some (.int .i64 2) := by rw [cell_of_row _ _ 1 _ _ _ (HCF.out.1 w21 HB21.out.1.els)]; rfl
                      have q5 : w21.cell? ⟨W.heap.size + 3, 5, none⟩ = some (.int .i64 (x : Int)) := by rw [cell_of_row _ _ 5 _ _ _ (HCF.out.1 w21 HB21.out.1.els)]; rfl
                      have hc := matrix_any w21 (W.heap.size + 4) (.slice A k c) fill (T + 2) 2 2 (4) HB21.out.2 HCF.out.2.2.1 (by omega) (by have := HCF.out.2.2.2.2; omega) rfl
                      rw [show ((2 : Nat) : Int) = 2 from rfl] at hc
                      have HK := Lib.hid hc
                      clear hc
                      go_upto_region 22 with (go_at_call 68; (with_reducible refine Calls.mono HK.out ?_); rintro e u21 ⟨A21, k21, rfl, ho, hf, he⟩; have bq := HB21.out.1.call HCF.out.2.1 he (l := nextL fill (T + 2) (4)) (by rw [nextL_length]; exact ho); have ff0 := frozen_of_row _ _ 1 _ _ bq.lb; have cc0 : u21.cell? ⟨Lb, 1, none⟩ = some (.int .i64 0) := (cell_of_row _ _ 1 _ _ _ bq.lb).trans rfl; have ff1 := frozen_of_row _ _ 2 _ _ bq.lb; have cc1 : u21.cell? ⟨Lb, 2, none⟩ = some (.int .i64 0) := (cell_of_row _ _ 2 _ _ _ bq.lb).trans rfl; have ff2 := frozen_of_row _ _ 3 _ _ bq.lb; have cc2 : u21.cell? ⟨Lb, 3, none⟩ = some (.slice none 0 0) := (cell_of_row _ _ 3 _ _ _ bq.lb).trans rfl; have HQ := Lib.hid (And.intro bq hf); clear bq ho hf he q1 q5)
                      obtain ⟨w22, hw⟩ : ∃ w, w = (((u21.setCell ⟨Lb, 1, none⟩ (.int .i64 2)).setCell ⟨Lb, 2, none⟩ (.int .i64 2)).setCell ⟨Lb, 3, none⟩ (.slice A21 (4) k21)) := ⟨_, rfl⟩
                      rw [← hw]
                      have bd : Bod (W.heap.size + 4) wr w22 Lb [.slice A20 2 k20, .int .i64 2, .int .i64 2, .slice A21 (4) k21, .int .i64 0, .int .i64 0, .slice none 0 0, .int .i64 0, .int .i64 0, .slice none 0 0, .int .i64 0, .int .i64 0, .slice none 0 0, .slice none 0 0, .int .i64 0, .int .i64 0, .slice none 0 0, .int .i64 0, .int .i64 0, .slice none 0 0, .int .i64 0, .int .i64 0, .slice none 0 0] [(.slice A20 2 k20, nextL fill T 2), (.slice A21 (4) k21, nextL fill (T + 2) (4))] := by rw [hw]; exact (((HQ.out.1.set (Nat.le_of_lt HFL.out.1) 1 (.int .i64 2)).set (Nat.le_of_lt HFL.out.1) 2 (.int .i64 2)).set (Nat.le_of_lt HFL.out.1) 3 (.slice A21 (4) k21))
                      have fl : FilAt w22 (W.heap.size + 4) (.slice A k c) fill (T + 2 + 4) := by rw [hw]; exact (((HQ.out.2.off (j := 1) (by have := HFL.out.1; omega) HFL.out.2 (.int .i64 2)).off (j := 2) (by have := HFL.out.1; omega) HFL.out.2 (.int .i64 2)).off (j := 3) (by have := HFL.out.1; omega) HFL.out.2 (.slice A21 (4) k21))
                      have HB22 := Lib.hid (And.intro bd fl)
                      clear bd fl hw HQ HK HB21 ff0 cc0 ff1 cc1 ff2 cc2
                      clear w21 u21
                      as_aux_lemma =>
                        have q1 : w22.cell? ⟨W.heap.size + 3, 1, none⟩ = some (.int .i64 2) := by rw [cell_of_row _ _ 1 _ _ _ (HCF.out.1 w22 HB22.out.1.els)]; rfl
                        have q5 : w22.cell? ⟨W.heap.size + 3, 5, none⟩ = some (.int .i64 (x : Int)) := by rw [cell_of_row _ _ 5 _ _ _ (HCF.out.1 w22 HB22.out.1.els)]; rfl
                        have hc := matrix_any w22 (W.heap.size + 4) (.slice A k c) fill (T + 2 + 4) 2 2 (4) HB22.out.2 HCF.out.2.2.1 (by omega) (by have := HCF.out.2.2.2.2; omega) rfl
                        rw [show ((2 : Nat) : Int) = 2 from rfl] at hc
                        have HK := Lib.hid hc
                        clear hc
                        go_upto_region 23 with (go_at_call 68; (with_reducible refine Calls.mono HK.out ?_); rintro e u22 ⟨A22, k22, rfl, ho, hf, he⟩; have bq := HB22.out.1.call HCF.out.2.1 he (l := nextL fill (T + 2 + 4) (4)) (by rw [nextL_length]; exact ho); have ff0 := frozen_of_row _ _ 4 _ _ bq.lb; have cc0 : u22.cell? ⟨Lb, 4, none⟩ = some (.int .i64 0) := (cell_of_row _ _ 4 _ _ _ bq.lb).trans rfl; have ff1 := frozen_of_row _ _ 5 _ _ bq.lb; have cc1 : u22.cell? ⟨Lb, 5, none⟩ = some (.int .i64 0) := (cell_of_row _ _ 5 _ _ _ bq.lb).trans rfl; have ff2 := frozen_of_row _ _ 6 _ _ bq.lb; have cc2 : u22.cell? ⟨Lb, 6, none⟩ = some (.slice none 0 0) := (cell_of_row _ _ 6 _ _ _ bq.lb).trans rfl; have HQ := Lib.hid (And.intro bq hf); clear bq ho hf he q1 q5)
                        obtain ⟨w23, hw⟩ : ∃ w, w = (((u22.setCell ⟨Lb, 4, none⟩ (.int .i64 2)).setCell ⟨Lb, 5, none⟩ (.int .i64 2)).setCell ⟨Lb, 6, none⟩ (.slice A22 (4) k22)) := ⟨_, rfl⟩
                        rw [← hw]
                        have bd : Bod (W.heap.size + 4) wr w23 Lb [.slice A20 2 k20, .int .i64 2, .int .i64 2, .slice A21 (4) k21, .int .i64 2, .int .i64 2, .slice A22 (4) k22, .int .i64 0, .int .i64 0, .slice none 0 0, .int .i64 0, .int .i64 0, .slice none 0 0, .slice none 0 0, .int .i64 0, .int .i64 0, .slice none 0 0, .int .i64 0, .int .i64 0, .slice none 0 0, .int .i64 0, .int .i64 0, .slice none 0 0] [(.slice A20 2 k20, nextL fill T 2), (.slice A21 (4) k21, nextL fill (T + 2) (4)), (.slice A22 (4) k22, nextL fill (T + 2 + 4) (4))] := by rw [hw]; exact (((HQ.out.1.set (Nat.le_of_lt HFL.out.1) 4 (.int .i64 2)).set (Nat.le_of_lt HFL.out.1) 5 (.int .i64 2)).set (Nat.le_of_lt HFL.out.1) 6 (.slice A22 (4) k22))
                        have fl : FilAt w23 (W.heap.size + 4) (.slice A k c) fill (T + 2 + 4 + 4) := by rw [hw]; exact (((HQ.out.2.off (j := 4) (by have := HFL.out.1; omega) HFL.out.2 (.int .i64 2)).off (j := 5) (by have := HFL.out.1; omega) HFL.out.2 (.int .i64 2)).off (j := 6) (by have := HFL.out.1; omega) HFL.out.2 (.slice A22 (4) k22))
                        have HB23 := Lib.hid (And.intro bd fl)
                        clear bd fl hw HQ HK HB22 ff0 cc0 ff1 cc1 ff2 cc2
                        clear w22 u22
                        as_aux_lemma =>
                          have q1 : w23.cell? ⟨W.heap.size + 3, 1, none⟩ = some (.int .i64 2) := by rw [cell_of_row _ _ 1 _ _ _ (HCF.out.1 w23 HB23.out.1.els)]; rfl
                          have q5 : w23.cell? ⟨W.heap.size + 3, 5, none⟩ = some (.int .i64 (x : Int)) := by rw [cell_of_row _ _ 5 _ _ _ (HCF.out.1 w23 HB23.out.1.els)]; rfl
                          have hc := matrix_any w23 (W.heap.size + 4) (.slice A k c) fill (T + 2 + 4 + 4) 2 2 (4) HB23.out.2 HCF.out.2.2.1 (by omega) (by have := HCF.out.2.2.2.2; omega) rfl
                          rw [show ((2 : Nat) : Int) = 2 from rfl] at hc
                          have HK := Lib.hid hc
                          clear hc
                          go_upto_region 24 with (go_at_call 68; (with_reducible refine Calls.mono HK.out ?_); rintro e u23 ⟨A23, k23, rfl, ho, hf, he⟩; have bq := HB23.out.1.call HCF.out.2.1 he (l := nextL fill (T + 2 + 4 + 4) (4)) (by rw [nextL_length]; exact ho); have ff0 := frozen_of_row _ _ 7 _ _ bq.lb; have cc0 : u23.cell? ⟨Lb, 7, none⟩ = some (.int .i64 0) := (cell_of_row _ _ 7 _ _ _ bq.lb).trans rfl; have ff1 := frozen_of_row _ _ 8 _ _ bq.lb; have cc1 : u23.cell? ⟨Lb, 8, none⟩ = some (.int .i64 0) := (cell_of_row _ _ 8 _ _ _ bq.lb).trans rfl; have ff2 := frozen_of_row _ _ 9 _ _ bq.lb; have cc2 : u23.cell? ⟨Lb, 9, none⟩ = some (.slice none 0 0) := (cell_of_row _ _ 9 _ _ _ bq.lb).trans rfl; have HQ := Lib.hid (And.intro bq hf); clear bq ho hf he q1 q5)
                          obtain ⟨w24, hw⟩ : ∃ w, w = (((u23.setCell ⟨Lb, 7, none⟩ (.int .i64 2)).setCell ⟨Lb, 8, none⟩ (.int .i64 2)).setCell ⟨Lb, 9, none⟩ (.slice A23 (4) k23)) := ⟨_, rfl⟩
                          rw [← hw]
                          have bd : Bod (W.heap.size + 4) wr w24 Lb [.slice A20 2 k20, .int .i64 2, .int .i64 2, .slice A21 (4) k21, .int .i64 2, .int .i64 2, .slice A22 (4) k22, .int .i64 2, .int .i64 2, .slice A23 (4) k23, .int .i64 0, .int .i64 0, .slice none 0 0, .slice none 0 0, .int .i64 0, .int .i64 0, .slice none 0 0, .int .i64 0, .int .i64 0, .slice none 0 0, .int .i64 0, .int .i64 0, .slice none 0 0] [(.slice A20 2 k20, nextL fill T 2), (.slice A21 (4) k21, nextL fill (T + 2) (4)), (.slice A22 (4) k22, nextL fill (T + 2 + 4) (4)), (.slice A23 (4) k23, nextL fill (T + 2 + 4 + 4) (4))] := by rw [hw]; exact (((HQ.out.1.set (Nat.le_of_lt HFL.out.1) 7 (.int .i64 2)).set (Nat.le_of_lt HFL.out.1) 8 (.int .i64 2)).set (Nat.le_of_lt HFL.out.1) 9 (.slice A23 (4) k23))
                          have fl : FilAt w24 (W.heap.size + 4) (.slice A k c) fill (T + 2 + 4 + 4 + 4) := by rw [hw]; exact (((HQ.out.2.off (j := 7) (by have := HFL.out.1; omega) HFL.out.2 (.int .i64 2)).off (j := 8) (by have := HFL.out.1; omega) HFL.out.2 (.int .i64 2)).off (j := 9) (by have := HFL.out.1; omega) HFL.out.2 (.slice A23 (4) k23))
                          have HB24 := Lib.hid (And.intro bd fl)
                          clear bd fl hw HQ HK HB23 ff0 cc0 ff1 cc1 ff2 cc2
                          clear w23 u23
                          as_aux_lemma =>
                            have q1 : w24.cell? ⟨W.heap.size + 3, 1, none⟩ = some (.int .i64 2) := by rw [cell_of_row _ _ 1 _ _ _ (HCF.out.1 w24 HB24.out.1.els)]; rfl
                            have q5 : w24.cell? ⟨W.heap.size + 3, 5, none⟩ = some (.int .i64 (x : Int)) := by rw [cell_of_row _ _ 5 _ _ _ (HCF.out.1 w24 HB24.out.1.els)]; rfl
                            have hc := matrix_any w24 (W.heap.size + 4) (.slice A k c) fill (T + 2 + 4 + 4 + 4) 2 2 (4) HB24.out.2 HCF.out.2.2.1 (by omega) (by have := HCF.out.2.2.2.2; omega) rfl
                            rw [show ((2 : Nat) : Int) = 2 from rfl] at hc
                            have HK := Lib.hid hc
                            clear hc
                            go_upto_region 25 with (go_at_call 68; (with_reducible refine Calls.mono HK.out ?_); rintro e u24 ⟨A24, k24, rfl, ho, hf, he⟩; have bq := HB24.out.1.call HCF.out.2.1 he (l := nextL fill (T + 2 + 4 + 4 + 4) (4)) (by rw [nextL_length]; exact ho); have ff0 := frozen_of_row _ _ 10 _ _ bq.lb; have cc0 : u24.cell? ⟨Lb, 10, none⟩ = some (.int .i64 0) := (cell_of_row _ _ 10 _ _ _ bq.lb).trans rfl; have ff1 := frozen_of_row _ _ 11 _ _ bq.lb; have cc1 : u24.cell? ⟨Lb, 11, none⟩ = some (.int .i64 0) := (cell_of_row _ _ 11 _ _ _ bq.lb).trans rfl; have ff2 := frozen_of_row _ _ 12 _ _ bq.lb; have cc2 : u24.cell? ⟨Lb, 12, none⟩ = some (.slice none 0 0) := (cell_of_row _ _ 12 _ _ _ bq.lb).trans rfl; have HQ := Lib.hid (And.intro bq hf); clear bq ho hf he q1 q5)
                            obtain ⟨w25, hw⟩ : ∃ w, w = (((u24.setCell ⟨Lb, 10, none⟩ (.int .i64 2)).setCell ⟨Lb, 11, none⟩ (.int .i64 2)).setCell ⟨Lb, 12, none⟩ (.slice A24 (4) k24)) := ⟨_, rfl⟩
                            rw [← hw]
                            have bd : Bod (W.heap.size + 4) wr w25 Lb [.slice A20 2 k20, .int .i64 2, .int .i64 2, .slice A21 (4) k21, .int .i64 2, .int .i64 2, .slice A22 (4) k22, .int .i64 2, .int .i64 2, .slice A23 (4) k23, .int .i64 2, .int .i64 2, .slice A24 (4) k24, .slice none 0 0, .int .i64 0, .int .i64 0, .slice none 0 0, .int .i64 0, .int .i64 0, .slice none 0 0, .int .i64 0, .int .i64 0, .slice none 0 0] [(.slice A20 2 k20, nextL fill T 2), (.slice A21 (4) k21, nextL fill (T + 2) (4)), (.slice A22 (4) k22, nextL fill (T + 2 + 4) (4)), (.slice A23 (4) k23, nextL fill (T + 2 + 4 + 4) (4)), (.slice A24 (4) k24, nextL fill (T + 2 + 4 + 4 + 4) (4))] := by rw [hw]; exact (((HQ.out.1.set (Nat.le_of_lt HFL.out.1) 10 (.int .i64 2)).set (Nat.le_of_lt HFL.out.1) 11 (.int .i64 2)).set (Nat.le_of_lt HFL.out.1) 12 (.slice A24 (4) k24))
                            have fl : FilAt w25 (W.heap.size + 4) (.slice A k c) fill (T + 2 + 4 + 4 + 4 + 4) := by rw [hw]; exact (((HQ.out.2.off (j := 10) (by have := HFL.out.1; omega) HFL.out.2 (.int .i64 2)).off (j := 11) (by have := HFL.out.1; omega) HFL.out.2 (.int .i64 2)).off (j := 12) (by have := HFL.out.1; omega) HFL.out.2 (.slice A24 (4) k24))
                            have HB25 := Lib.hid (And.intro bd fl)
                            clear bd fl hw HQ HK HB24 ff0 cc0 ff1 cc1 ff2 cc2
                            clear w24 u24
                            as_aux_lemma =>
                              have q1 : w25.cell? ⟨W.heap.size + 3, 1, none⟩ = some (.int .i64 2) := by rw [cell_of_row _ _ 1 _ _ _ (HCF.out.1 w25 HB25.out.1.els)]; rfl
                              have q5 : w25.cell? ⟨W.heap.size + 3, 5, none⟩ = some (.int .i64 (x : Int)) := by rw [cell_of_row _ _ 5 _ _ _ (HCF.out.1 w25 HB25.out.1.els)]; rfl
                              have hc := next_any w25 (W.heap.size + 4) (.slice A k c) fill (T + 2 + 4 + 4 + 4 + 4) 2 HB25.out.2 HCF.out.2.2.1 (by omega) (by have := HCF.out.2.2.2.2; omega)
                              rw [show ((2 : Nat) : Int) = 2 from rfl] at hc
                              have HK := Lib.hid hc
                              clear hc
                              go_upto_region 26 with (go_at_call 69; (with_reducible refine Calls.mono HK.out ?_); rintro e u25 ⟨A25, k25, rfl, ho, hf, he⟩; have bq := HB25.out.1.call HCF.out.2.1 he (l := nextL fill (T + 2 + 4 + 4 + 4 + 4) (2)) (by rw [nextL_length]; exact ho); have ff0 := frozen_of_row _ _ 13 _ _ bq.lb; have cc0 : u25.cell? ⟨Lb, 13, none⟩ = some (.slice none 0 0) := (cell_of_row _ _ 13 _ _ _ bq.lb).trans rfl; have HQ := Lib.hid (And.intro bq hf); clear bq ho hf he q1 q5)
                              obtain ⟨w26, hw⟩ : ∃ w, w = (u25.setCell ⟨Lb, 13, none⟩ (.slice A25 (2) k25)) := ⟨_, rfl⟩
                              rw [← hw]
                              have bd : Bod (W.heap.size + 4) wr w26 Lb [.slice A20 2 k20, .int .i64 2, .int .i64 2, .slice A21 (4) k21, .int .i64 2, .int .i64 2, .slice A22 (4) k22, .int .i64 2, .int .i64 2, .slice A23 (4) k23, .int .i64 2, .int .i64 2, .slice A24 (4) k24, .slice A25 (2) k25, .int .i64 0, .int .i64 0, .slice none 0 0, .int .i64 0, .int .i64 0, .slice none 0 0, .int .i64 0, .int .i64 0, .slice none 0 0] [(.slice A20 2 k20, nextL fill T 2), (.slice A21 (4) k21, nextL fill (T + 2) (4)), (.slice A22 (4) k22, nextL fill (T + 2 + 4) (4)), (.slice A23 (4) k23, nextL fill (T + 2 + 4 + 4) (4)), (.slice A24 (4) k24, nextL fill (T + 2 + 4 + 4 + 4) (4)), (.slice A25 (2) k25, nextL fill (T + 2 + 4 + 4 + 4 + 4) (2))] := by rw [hw]; exact (HQ.out.1.set (Nat.le_of_lt HFL.out.1) 13 (.slice A25 (2) k25))
                              have fl : FilAt w26 (W.heap.size + 4) (.slice A k c) fill (T + 2 + 4 + 4 + 4 + 4 + 2) := by rw [hw]; exact (HQ.out.2.off (j := 13) (by have := HFL.out.1; omega) HFL.out.2 (.slice A25 (2) k25))
                              have HB26 := Lib.hid (And.intro bd fl)
                              clear bd fl hw HQ HK HB25 ff0 cc0
                              clear w25 u25
                              as_aux_lemma =>
                                have q1 : w26.cell? ⟨W.heap.size + 3, 1, none⟩ = some (.int .i64 2) := by rw [cell_of_row _ _ 1 _ _ _ (HCF.out.1 w26 HB26.out.1.els)]; rfl
                                have q5 : w26.cell? ⟨W.heap.size + 3, 5, none⟩ = some (.int .i64 (x : Int)) := by rw [cell_of_row _ _ 5 _ _ _ (HCF.out.1 w26 HB26.out.1.els)]; rfl
                                have hc := matrix_any w26 (W.heap.size + 4) (.slice A k c) fill (T + 2 + 4 + 4 + 4 + 4 + 2) x 2 (x * 2) HB26.out.2 HCF.out.2.2.1 (by omega) (by have := HCF.out.2.2.2.2; omega) rfl
                                rw [show ((2 : Nat) : Int) = 2 from rfl] at hc
                                have HK := Lib.hid hc
                                clear hc
                                go_upto_region 27 with (go_at_call 68; (with_reducible refine Calls.mono HK.out ?_); rintro e u26 ⟨A26, k26, rfl, ho, hf, he⟩; have bq := HB26.out.1.call HCF.out.2.1 he (l := nextL fill (T + 2 + 4 + 4 + 4 + 4 + 2) (x * 2)) (by rw [nextL_length]; exact ho); have ff0 := frozen_of_row _ _ 14 _ _ bq.lb; have cc0 : u26.cell? ⟨Lb, 14, none⟩ = some (.int .i64 0) := (cell_of_row _ _ 14 _ _ _ bq.lb).trans rfl; have ff1 := frozen_of_row _ _ 15 _ _ bq.lb; have cc1 : u26.cell? ⟨Lb, 15, none⟩ = some (.int .i64 0) := (cell_of_row _ _ 15 _ _ _ bq.lb).trans rfl; have ff2 := frozen_of_row _ _ 16 _ _ bq.lb; have cc2 : u26.cell? ⟨Lb, 16, none⟩ = some (.slice none 0 0) := (cell_of_row _ _ 16 _ _ _ bq.lb).trans rfl; have HQ := Lib.hid (And.intro bq hf); clear bq ho hf he q1 q5)
                                obtain ⟨w27, hw⟩ : ∃ w, w = (((u26.setCell ⟨Lb, 14, none⟩ (.int .i64 (x : Int))).setCell ⟨Lb, 15, none⟩ (.int .i64 2)).setCell ⟨Lb, 16, none⟩ (.slice A26 (x * 2) k26)) := ⟨_, rfl⟩
                                rw [← hw]
                                have bd : Bod (W.heap.size + 4) wr w27 Lb [.slice A20 2 k20, .int .i64 2, .int .i64 2, .slice A21 (4) k21, .int .i64 2, .int .i64 2, .slice A22 (4) k22, .int .i64 2, .int .i64 2, .slice A23 (4) k23, .int .i64 2, .int .i64 2, .slice A24 (4) k24, .slice A25 (2) k25, .int .i64 (x : Int), .int .i64 2, .slice A26 (x * 2) k26, .int .i64 0, .int .i64 0, .slice none 0 0, .int .i64 0, .int .i64 0, .slice none 0 0] [(.slice A20 2 k20, nextL fill T 2), (.slice A21 (4) k21, nextL fill (T + 2) (4)), (.slice A22 (4) k22, nextL fill (T + 2 + 4) (4)), (.slice A23 (4) k23, nextL fill (T + 2 + 4 + 4) (4)), (.slice A24 (4) k24, nextL fill (T + 2 + 4 + 4 + 4) (4)), (.slice A25 (2) k25, nextL fill (T + 2 + 4 + 4 + 4 + 4) (2)), (.slice A26 (x * 2) k26, nextL fill (T + 2 + 4 + 4 + 4 + 4 + 2) (x * 2))] := by rw [hw]; exact (((HQ.out.1.set (Nat.le_of_lt HFL.out.1) 14 (.int .i64 (x : Int))).set (Nat.le_of_lt HFL.out.1) 15 (.int .i64 2)).set (Nat.le_of_lt HFL.out.1) 16 (.slice A26 (x * 2) k26))
                                have fl : FilAt w27 (W.heap.size + 4) (.slice A k c) fill (T + 2 + 4 + 4 + 4 + 4 + 2 + x * 2) := by rw [hw]; exact (((HQ.out.2.off (j := 14) (by have := HFL.out.1; omega) HFL.out.2 (.int .i64 (x : Int))).off (j := 15) (by have := HFL.out.1; omega) HFL.out.2 (.int .i64 2)).off (j := 16) (by have := HFL.out.1; omega) HFL.out.2 (.slice A26 (x * 2) k26))
                                have HB27 := Lib.hid (And.intro bd fl)
                                clear bd fl hw HQ HK HB26 ff0 cc0 ff1 cc1 ff2 cc2
                                clear w26 u26
                                as_aux_lemma =>
                                  have q1 : w27.cell? ⟨W.heap.size + 3, 1, none⟩ = some (.int .i64 2) := by rw [cell_of_row _ _ 1 _ _ _ (HCF.out.1 w27 HB27.out.1.els)]; rfl
                                  have q5 : w27.cell? ⟨W.heap.size + 3, 5, none⟩ = some (.int .i64 (x : Int)) := by rw [cell_of_row _ _ 5 _ _ _ (HCF.out.1 w27 HB27.out.1.els)]; rfl
                                  have hc := matrix_any w27 (W.heap.size + 4) (.slice A k c) fill (T + 2 + 4 + 4 + 4 + 4 + 2 + x * 2) x 2 (x * 2) HB27.out.2 HCF.out.2.2.1 (by omega) (by have := HCF.out.2.2.2.2; omega) rfl
                                  rw [show ((2 : Nat) : Int) = 2 from rfl] at hc
                                  have HK := Lib.hid hc
                                  clear hc
                                  go_upto_region 28 with (go_at_call 68; (with_reducible refine Calls.mono HK.out ?_); rintro e u27 ⟨A27, k27, rfl, ho, hf, he⟩; have bq := HB27.out.1.call HCF.out.2.1 he (l := nextL fill (T + 2 + 4 + 4 + 4 + 4 + 2 + x * 2) (x * 2)) (by rw [nextL_length]; exact ho); have ff0 := frozen_of_row _ _ 17 _ _ bq.lb; have cc0 : u27.cell? ⟨Lb, 17, none⟩ = some (.int .i64 0) := (cell_of_row _ _ 17 _ _ _ bq.lb).trans rfl; have ff1 := frozen_of_row _ _ 18 _ _ bq.lb; have cc1 : u27.cell? ⟨Lb, 18, none⟩ = some (.int .i64 0) := (cell_of_row _ _ 18 _ _ _ bq.lb).trans rfl; have ff2 := frozen_of_row _ _ 19 _ _ bq.lb; have cc2 : u27.cell? ⟨Lb, 19, none⟩ = some (.slice none 0 0) := (cell_of_row _ _ 19 _ _ _ bq.lb).trans rfl; have HQ := Lib.hid (And.intro bq hf); clear bq ho hf he q1 q5)
                                  obtain ⟨w28, hw⟩ : ∃ w, w = (((u27.setCell ⟨Lb, 17, none⟩ (.int .i64 (x : Int))).setCell ⟨Lb, 18, none⟩ (.int .i64 2)).setCell ⟨Lb, 19, none⟩ (.slice A27 (x * 2) k27)) := ⟨_, rfl⟩
                                  rw [← hw]
                                  have bd : Bod (W.heap.size + 4) wr w28 Lb [.slice A20 2 k20, .int .i64 2, .int .i64 2, .slice A21 (4) k21, .int .i64 2, .int .i64 2, .slice A22 (4) k22, .int .i64 2, .int .i64 2, .slice A23 (4) k23, .int .i64 2, .int .i64 2, .slice A24 (4) k24, .slice A25 (2) k25, .int .i64 (x : Int), .int .i64 2, .slice A26 (x * 2) k26, .int .i64 (x : Int), .int .i64 2, .slice A27 (x * 2) k27, .int .i64 0, .int .i64 0, .slice none 0 0] [(.slice A20 2 k20, nextL fill T 2), (.slice A21 (4) k21, nextL fill (T + 2) (4)), (.slice A22 (4) k22, nextL fill (T + 2 + 4) (4)), (.slice A23 (4) k23, nextL fill (T + 2 + 4 + 4) (4)), (.slice A24 (4) k24, nextL fill (T + 2 + 4 + 4 + 4) (4)), (.slice A25 (2) k25, nextL fill (T + 2 + 4 + 4 + 4 + 4) (2)), (.slice A26 (x * 2) k26, nextL fill (T + 2 + 4 + 4 + 4 + 4 + 2) (x * 2)), (.slice A27 (x * 2) k27, nextL fill (T + 2 + 4 + 4 + 4 + 4 + 2 + x * 2) (x * 2))] := by rw [hw]; exact (((HQ.out.1.set (Nat.le_of_lt HFL.out.1) 17 (.int .i64 (x : Int))).set (Nat.le_of_lt HFL.out.1) 18 (.int .i64 2)).set (Nat.le_of_lt HFL.out.1) 19 (.slice A27 (x * 2) k27))
                                  have fl : FilAt w28 (W.heap.size + 4) (.slice A k c) fill (T + 2 + 4 + 4 + 4 + 4 + 2 + x * 2 + x * 2) := by rw [hw]; exact (((HQ.out.2.off (j := 17) (by have := HFL.out.1; omega) HFL.out.2 (.int .i64 (x : Int))).off (j := 18) (by have := HFL.out.1; omega) HFL.out.2 (.int .i64 2)).off (j := 19) (by have := HFL.out.1; omega) HFL.out.2 (.slice A27 (x * 2) k27))
                                  have HB28 := Lib.hid (And.intro bd fl)
                                  clear bd fl hw HQ HK HB27 ff0 cc0 ff1 cc1 ff2 cc2
                                  clear w27 u27
                                  as_aux_lemma =>
                                    have q1 : w28.cell? ⟨W.heap.size + 3, 1, none⟩ = some (.int .i64 2) := by rw [cell_of_row _ _ 1 _ _ _ (HCF.out.1 w28 HB28.out.1.els)]; rfl
                                    have q5 : w28.cell? ⟨W.heap.size + 3, 5, none⟩ = some (.int .i64 (x : Int)) := by rw [cell_of_row _ _ 5 _ _ _ (HCF.out.1 w28 HB28.out.1.els)]; rfl
                                    have hc := matrix_any w28 (W.heap.size + 4) (.slice A k c) fill (T + 2 + 4 + 4 + 4 + 4 + 2 + x * 2 + x * 2) 2 x (2 * x) HB28.out.2 HCF.out.2.2.1 (by omega) (by have := HCF.out.2.2.2.2; omega) rfl
                                    rw [show ((2 : Nat) : Int) = 2 from rfl] at hc
                                    have HK := Lib.hid hc
                                    clear hc
                                    go_upto_region 29 with (go_at_call 68; (with_reducible refine Calls.mono HK.out ?_); rintro e u28 ⟨A28, k28, rfl, ho, hf, he⟩; have bq := HB28.out.1.call HCF.out.2.1 he (l := nextL fill (T + 2 + 4 + 4 + 4 + 4 + 2 + x * 2 + x * 2) (2 * x)) (by rw [nextL_length]; exact ho); have ff0 := frozen_of_row _ _ 20 _ _ bq.lb; have cc0 : u28.cell? ⟨Lb, 20, none⟩ = some (.int .i64 0) := (cell_of_row _ _ 20 _ _ _ bq.lb).trans rfl; have ff1 := frozen_of_row _ _ 21 _ _ bq.lb; have cc1 : u28.cell? ⟨Lb, 21, none⟩ = some (.int .i64 0) := (cell_of_row _ _ 21 _ _ _ bq.lb).trans rfl; have ff2 := frozen_of_row _ _ 22 _ _ bq.lb; have cc2 : u28.cell? ⟨Lb, 22, none⟩ = some (.slice none 0 0) := (cell_of_row _ _ 22 _ _ _ bq.lb).trans rfl; have HQ := Lib.hid (And.intro bq hf); clear bq ho hf he q1 q5)
                                    obtain ⟨w29, hw⟩ : ∃ w, w = (((u28.setCell ⟨Lb, 20, none⟩ (.int .i64 2)).setCell ⟨Lb, 21, none⟩ (.int .i64 (x : Int))).setCell ⟨Lb, 22, none⟩ (.slice A28 (2 * x) k28)) := ⟨_, rfl⟩
                                    rw [← hw]
                                    have bd : Bod (W.heap.size + 4) wr w29 Lb [.slice A20 2 k20, .int .i64 2, .int .i64 2, .slice A21 (4) k21, .int .i64 2, .int .i64 2, .slice A22 (4) k22, .int .i64 2, .int .i64 2, .slice A23 (4) k23, .int .i64 2, .int .i64 2, .slice A24 (4) k24, .slice A25 (2) k25, .int .i64 (x : Int), .int .i64 2, .slice A26 (x * 2) k26, .int .i64 (x : Int), .int .i64 2, .slice A27 (x * 2) k27, .int .i64 2, .int .i64 (x : Int), .slice A28 (2 * x) k28] [(.slice A20 2 k20, nextL fill T 2), (.slice A21 (4) k21, nextL fill (T + 2) (4)), (.slice A22 (4) k22, nextL fill (T + 2 + 4) (4)), (.slice A23 (4) k23, nextL fill (T + 2 + 4 + 4) (4)), (.slice A24 (4) k24, nextL fill (T + 2 + 4 + 4 + 4) (4)), (.slice A25 (2) k25, nextL fill (T + 2 + 4 + 4 + 4 + 4) (2)), (.slice A26 (x * 2) k26, nextL fill (T + 2 + 4 + 4 + 4 + 4 + 2) (x * 2)), (.slice A27 (x * 2) k27, nextL fill (T + 2 + 4 + 4 + 4 + 4 + 2 + x * 2) (x * 2)), (.slice A28 (2 * x) k28, nextL fill (T + 2 + 4 + 4 + 4 + 4 + 2 + x * 2 + x * 2) (2 * x))] := by rw [hw]; exact (((HQ.out.1.set (Nat.le_of_lt HFL.out.1) 20 (.int .i64 2)).set (Nat.le_of_lt HFL.out.1) 21 (.int .i64 (x : Int))).set (Nat.le_of_lt HFL.out.1) 22 (.slice A28 (2 * x) k28))
                                    have fl : FilAt w29 (W.heap.size + 4) (.slice A k c) fill (T + 2 + 4 + 4 + 4 + 4 + 2 + x * 2 + x * 2 + 2 * x) := by rw [hw]; exact (((HQ.out.2.off (j := 20) (by have := HFL.out.1; omega) HFL.out.2 (.int .i64 2)).off (j := 21) (by have := HFL.out.1; omega) HFL.out.2 (.int .i64 (x : Int))).off (j := 22) (by have := HFL.out.1; omega) HFL.out.2 (.slice A28 (2 * x) k28))
                                    have HB29 := Lib.hid (And.intro bd fl)
                                    clear bd fl hw HQ HK HB28 ff0 cc0 ff1 cc1 ff2 cc2
                                    clear w28 u28
                                    as_aux_lemma =>
              
                                      have frmZ := HLy.out.frm.els HB29.out.1.els HB29.out.2
                                      have c511 : w29.cell? ⟨W.heap.size + 5, 11, none⟩ = some (.slice A9 i c9) := (cell_of_row _ _ 11 _ _ _ frmZ.mod).trans rfl
                                      have hz := HLy.out.frm.size
                                      have hls : Owns w29 (W.heap.size + 6) 23 (.slice A9 i c9) i (H.map layC).flatten := HLy.out.ls.same (fun b hb => HB29.out.1.els.same b (HLy.out.ls.lt b hb).2 (by have := (HLy.out.ls.lt b hb).1; omega)) HB29.out.1.els.below.size
                                      obtain ⟨C, hC⟩ : ∃ C : List Value, C = [.slice A20 2 k20, .int .i64 2, .int .i64 2, .slice A21 (4) k21, .int .i64 2, .int .i64 2, .slice A22 (4) k22, .int .i64 2, .int .i64 2, .slice A23 (4) k23, .int .i64 2, .int .i64 2, .slice A24 (4) k24, .slice A25 (2) k25, .int .i64 (x : Int), .int .i64 2, .slice A26 (x * 2) k26, .int .i64 (x : Int), .int .i64 2, .slice A27 (x * 2) k27, .int .i64 2, .int .i64 (x : Int), .slice A28 (2 * x) k28] := ⟨_, rfl⟩
                                      have hCl : C.length = 23 := by rw [hC]; rfl
                                      have hC1 : ∀ u ∈ C, u.oneCell' = true := by rw [hC]; simp [Value.oneCell']
                                      have hsrc : Src Try.prog 23 29 (.slice (some ⟨w29.heap.size, 0, none⟩) 1 1) 1 C (w29.alloc (.cells C.toArray 56)) := src_lay _ hCl hC1 (rangeAt_whole (heap_alloc_new w29 _))
                                      have hr : w29.rangeAt Lb 0 C := by rw [hC]; exact rangeAt_whole HB29.out.1.lb
                                      have HA := Lib.hid (And.intro (hls.alloc (.cells C.toArray 56)) (And.intro hsrc (And.intro hr (And.intro frmZ (And.intro hCl hC)))))
                                      clear frmZ hls hsrc hr hz hC hCl hC1
                                      as_aux_lemma =>
                                        go_wp2_with (first | (refine wpList_load_mid rfl 56 (.tmp 11) rfl Lb 0 rfl C _ HA.out.2.2.1 Try.underlying56 rfl (by rw [HA.out.2.2.2.2.1]; exact lay_size') ?_; simp only [Act.put, List.setIfInBounds_toArray, List.set_cons_succ, List.set_cons_zero]) | (refine wpList_build_lay rfl (.tmp 223) rfl C rfl HA.out.2.2.2.2.1 ?_; simp only [Act.put, List.setIfInBounds_toArray, List.set_cons_succ, List.set_cons_zero]) | (at_builtin; refine wpList_append rfl (.tmp 222) (.tmp 224) 29 29 rfl (W.heap.size + 6) 56 _ 23 328 Try.underlying29 infoL _ i (H.map layC).flatten rfl (by exact HA.out.1) _ 1 C rfl (by exact HA.out.2.1) (by unfold maxLen; omega) (by omega) (by have := HA.out.2.2.2.1.size; rw [World.size_alloc]; omega) ?_; intro A30 c30 w30 hown hg hbl; have frm30 := (HA.out.2.2.2.1.alloc (.cells C.toArray 56)).grown hg (fun k hk => (HA.out.1.lt k hk).1); have f30 := frozen_of_row _ _ 11 _ _ frm30.mod; have c30' : w30.cell? ⟨W.heap.size + 5, 11, none⟩ = some (.slice A9 i c9) := (cell_of_row _ _ 11 _ _ _ frm30.mod).trans rfl; have H30 := Lib.hid (And.intro frm30 (And.intro hown (And.intro hg hbl))); clear frm30 hown hg hbl c511))
                                        go_roundw
                                        case rel =>
                                          have hg := H30.out.2.2.1
                                          have hN := H30.out.2.2.2
                                          have hfr : W.heap.size + 4 < W.heap.size + 6 := by omega
                                          refine ⟨i + 1, A30, c30, by omega, by go_num, H ++ [(layAt fill 2 x T, ⟨.slice A20 2 k20, .slice A21 (4) k21, .slice A22 (4) k22, .slice A23 (4) k23, .slice A24 (4) k24, .slice A25 (2) k25, .slice A26 (x * 2) k26, .slice A27 (x * 2) k27, .slice A28 (2 * x) k28⟩)], ?_, ?_, ?_, ?_, ?_, ?_⟩
                                          · have e : m0 + (i + 1) * layStep 2 x = T + 2 + 4 + 4 + 4 + 4 + 2 + x * 2 + x * 2 + 2 * x := by
                                              rw [Nat.add_mul, Nat.one_mul, ← Nat.add_assoc, ← HCF.out.2.2.2.1]
                                              unfold layStep
                                              omega
                                            show Frm W _ _ _ (m0 + (i + 1) * layStep 2 x) _
                                            rw [e]
                                            exact H30.out.1.set 11 _
                                          · exact ((HLy.out.al.els hfr HB29.out.1.els).grown hg hN).set (by omega) _
                                          · exact ((HLy.out.em.els hfr HB29.out.1.els).grown hg hN).set (by omega) _
                                          · show List.map (fun p : Lay × LayH => p.1) (H ++ [_]) = laysAt fill 2 x m0 (i + 1)
                                            rw [laysAt_succ, List.map_append, HLy.out.lays, HCF.out.2.2.2.1]
                                            rfl
                                          · rw [List.map_append, List.flatten_append]
                                            have h7 := H30.out.2.1
                                            rw [HA.out.2.2.2.2.2] at h7
                                            exact h7.setCell (a := ⟨W.heap.size + 5, 11, none⟩) (fun b hb => by have := (h7.lt b hb).1; simp; omega) _
                                          · intro p hp
                                            rcases List.mem_append.1 hp with hp | hp
                                            · exact (((HLy.out.dat p hp).els hfr HB29.out.1.els).grown hg hN).set (by omega) _
                                            · rw [List.mem_singleton] at hp
                                              subst hp
                                              exact ((Bod.lay (N := (Value.slice A9 i c9).ownBlock) (L := layAt fill 2 x T) (h := ⟨.slice A20 2 k20, .slice A21 (4) k21, .slice A22 (4) k22, .slice A23 (4) k23, .slice A24 (4) k24, .slice A25 (2) k25, .slice A26 (x * 2) k26, .slice A27 (x * 2) k27, .slice A28 (2 * x) k28⟩) HB29.out.1 HLy.out.frm.size (fun k hk => (HLy.out.ls.lt k hk).2)).grown hg hN).set (by omega) _
                                        case measure => simp [intOf]; omega
                · obtain rfl : l = i := by omega
                  as_aux_lemma =>
                    obtain ⟨T, hT⟩ : ∃ T, T = m0 + l * layStep 2 x := ⟨_, rfl⟩
                    have hT9 : T ≤ 1000 := by
                      have h1 := layStep_le 2 x (by decide) hx2.2
                      have h2 : l * layStep 2 x ≤ 2 * layStep 2 x := Nat.mul_le_mul_right _ hl2.2
                      have := HM2.out.2.2
                      omega
                    have hfl := HM2.out.2.1
                    have hfa : FilAt wr (W.heap.size + 4) (.slice A k c) fill T := by rw [hT]; exact HLy.out.frm.filAt HF.out.1 hfl
                    have hnx := next_any wr (W.heap.size + 4) (.slice A k c) fill T 2 hfa hfl (by omega) (by omega)
                    rw [show ((2 : Nat) : Int) = 2 from rfl] at hnx
                    have q1 : wr.cell? ⟨W.heap.size + 3, 1, none⟩ = some (.int .i64 2) := by rw [cell_of_row _ _ 1 _ _ _ HLy.out.frm.cfg]; rfl
                    have HN := Lib.hid hnx
                    have HT := Lib.hid (And.intro hT hT9)
                    clear hnx hfa hfl hT hT9
                    go_upto_region 31 with (go_at_call 69; (with_reducible refine Calls.mono HN.out ?_); rintro e w20 ⟨A20, k20, rfl, ho, hf, he⟩; have frm20 := HLy.out.frm.els he hf; have f0 := frozen_of_row _ _ 12 _ _ frm20.mod; have y0 : w20.cell? ⟨W.heap.size + 5, 12, none⟩ = some (.slice none 0 0) := (cell_of_row _ _ 12 _ _ _ frm20.mod).trans rfl; have H20 := Lib.hid (And.intro frm20 (And.intro ho he)); clear frm20 ho hf he c33 q1)
                    obtain ⟨w21, hw21⟩ : ∃ w21, w21 = w20.setCell ⟨W.heap.size + 5, 12, none⟩ (.slice A20 2 k20) := ⟨_, rfl⟩
                    rw [← hw21]
                    have frm21 : Frm W w21 ⟨v, 2, hd, l, cx, x⟩ (.slice A k c) (T + 2) (rowG ⟨v, 2, hd, l, cx, x⟩ va (.int .i64 (v : Int)) (.int .i64 2) ve (.slice A9 l c9) (.slice A20 2 k20) (.int .i64 0) (.int .i64 0) (.slice none 0 0)) := by rw [hw21]; exact H20.out.1.set 12 _
                    have hsz := HLy.out.frm.size
                    have el : Else (W.heap.size + 4) wr w20 := H20.out.2.2
                    have d1 : Dat (W.heap.size + 6) none w21 va v (bytesV (alph v)) := by rw [hw21]; exact ((HLy.out.al.els (by omega) el).set (by omega) _).no
                    have d2 : Dat (W.heap.size + 6) none w21 ve m0 (intsV (nextL fill 0 m0)) := by rw [hw21]; exact ((HLy.out.em.els (by omega) el).set (by omega) _).no
                    have d3 : Owns w21 (W.heap.size + 6) 23 (.slice A9 l c9) l (H.map layC).flatten := by
                      rw [hw21]
                      exact (HLy.out.ls.same (fun b hb => el.same b (HLy.out.ls.lt b hb).2 (by have := (HLy.out.ls.lt b hb).1; omega)) el.below.size).setCell (a := ⟨W.heap.size + 5, 12, none⟩) (fun b hb => by have := (HLy.out.ls.lt b hb).1; simp; omega) _
                    have d4 : ∀ p ∈ H, LayDat (W.heap.size + 6) none w21 p := fun p hp => by rw [hw21]; exact (((HLy.out.dat p hp).els (by omega) el).set (by omega) _).no
                    have d5 : Dat (W.heap.size + 6) none w21 (.slice A20 2 k20) 2 (intsV (nextL fill T 2)) := by rw [hw21]; exact (⟨H20.out.2.1.mono hsz, fun b _ h => by cases h⟩ : Dat (W.heap.size + 6) none w20 _ _ _).set (by omega) _
                    have hlays := HLy.out.lays
                    have H21 := Lib.hid (And.intro frm21 (And.intro d1 (And.intro d2 (And.intro d3 (And.intro d4 (And.intro d5 hlays))))))
                    have hmx := matrix_any w21 (W.heap.size + 4) (.slice A k c) fill (T + 2) v 2 m0 (frm21.filAt HF.out.1 HM2.out.2.1) HM2.out.2.1 (by have := HM2.out.2.2; omega) (by have := HT.out.2; omega) HM2.out.1.symm
                    rw [show ((2 : Nat) : Int) = 2 from rfl] at hmx
                    have q0 : w21.cell? ⟨W.heap.size + 3, 0, none⟩ = some (.int .i64 (v : Int)) := by rw [cell_of_row _ _ 0 _ _ _ frm21.cfg]; rfl
                    have q1 : w21.cell? ⟨W.heap.size + 3, 1, none⟩ = some (.int .i64 2) := by rw [cell_of_row _ _ 1 _ _ _ frm21.cfg]; rfl
                    have HX := Lib.hid hmx
                    clear frm21 d1 d2 d3 d4 d5 hlays hw21 hsz el hmx f0 y0 HN H20 HLy w20 wr
                    as_aux_lemma =>
                      go_upto_region 32 with (go_at_call 68; (with_reducible refine Calls.mono HX.out ?_); rintro e w22 ⟨A22, k22, rfl, ho, hf, he⟩; have frm22 := H21.out.1.els he hf; have f0 := frozen_of_row _ _ 13 _ _ frm22.mod; have f1 := frozen_of_row _ _ 14 _ _ frm22.mod; have f2 := frozen_of_row _ _ 15 _ _ frm22.mod; have y0 : w22.cell? ⟨W.heap.size + 5, 13, none⟩ = some (.int .i64 0) := (cell_of_row _ _ 13 _ _ _ frm22.mod).trans rfl; have y1 : w22.cell? ⟨W.heap.size + 5, 14, none⟩ = some (.int .i64 0) := (cell_of_row _ _ 14 _ _ _ frm22.mod).trans rfl; have y2 : w22.cell? ⟨W.heap.size + 5, 15, none⟩ = some (.slice none 0 0) := (cell_of_row _ _ 15 _ _ _ frm22.mod).trans rfl; have H22 := Lib.hid (And.intro frm22 (And.intro ho he)); clear frm22 ho hf he q0 q1)
                      obtain ⟨w23, hw23⟩ : ∃ w23, w23 = ((w22.setCell ⟨W.heap.size + 5, 13, none⟩ (.int .i64 (v : Int))).setCell ⟨W.heap.size + 5, 14, none⟩ (.int .i64 2)).setCell ⟨W.heap.size + 5, 15, none⟩ (.slice A22 m0 k22) := ⟨_, rfl⟩
                      rw [← hw23]
                      have hsz := H21.out.1.size
                      have el : Else (W.heap.size + 4) w21 w22 := H22.out.2.2
                      have frm23 : Frm W w23 ⟨v, 2, hd, l, cx, x⟩ (.slice A k c) (T + 2 + m0) (rowG ⟨v, 2, hd, l, cx, x⟩ va (.int .i64 (v : Int)) (.int .i64 2) ve (.slice A9 l c9) (.slice A20 2 k20) (.int .i64 (v : Int)) (.int .i64 2) (.slice A22 m0 k22)) := by rw [hw23]; exact ((H22.out.1.set 13 _).set 14 _).set 15 _
                      have st3 : ∀ {v n xs}, Dat (W.heap.size + 6) none w22 v n xs → Dat (W.heap.size + 6) none w23 v n xs := fun y => by rw [hw23]; exact ((y.set (by omega) _).set (by omega) _).set (by omega) _
                      have hd3 : Owns w23 (W.heap.size + 6) 23 (.slice A9 l c9) l (H.map layC).flatten := by
                        have h9 := H21.out.2.2.2.1
                        have hne : ∀ b, (Value.slice A9 l c9).ownBlock = some b → b ≠ W.heap.size + 5 := fun b hb => by have := (h9.lt b hb).1; omega
                        rw [hw23]
                        exact (((h9.same (fun b hb => el.same b (h9.lt b hb).2 (by have := (h9.lt b hb).1; omega)) el.below.size).setCell (a := ⟨W.heap.size + 5, 13, none⟩) hne _).setCell (a := ⟨W.heap.size + 5, 14, none⟩) hne _).setCell (a := ⟨W.heap.size + 5, 15, none⟩) hne _
                      have mdd : MdD W w23 ⟨v, 2, hd, l, cx, x⟩ fill va ve (.slice A9 l c9) (.slice A20 2 k20) (.slice A22 m0 k22) H := by
                        have e1 := HM2.out.1
                        have e2 := HT.out.1
                        have l1 := (st3 (H21.out.2.1.els (by omega) el)).own
                        have l2 := (st3 (H21.out.2.2.1.els (by omega) el)).own
                        have l5 := (st3 (H21.out.2.2.2.2.2.1.els (by omega) el)).own
                        have l6 := (st3 (⟨H22.out.2.1.mono hsz, fun b _ h => by cases h⟩ : Dat (W.heap.size + 6) none w22 _ _ _)).own
                        have l4 : ∀ p ∈ H, LayDat (W.heap.size + 6) none w23 p := fun p hp => by
                          have y := (H21.out.2.2.2.2.1 p hp).els (by omega) el
                          exact ⟨st3 y.n1, st3 y.q, st3 y.k, st3 y.v, st3 y.o, st3 y.n2, st3 y.g, st3 y.u, st3 y.d⟩
                        have l7 := H21.out.2.2.2.2.2.2
                        subst e2
                        subst e1
                        exact ⟨l1, l2, l7, hd3, l4, l5, l6⟩
                      have hv12 : v ≤ 100 := by have := HL.out.2.1.2; omega
                      have hv1 : 1 ≤ v := by have := HL.out.2.1.1; omega
                      obtain ⟨hh, hhh⟩ : ∃ hh : ModH, hh = ⟨va, .slice none 0 0, ve, .slice A9 l c9, .slice A20 2 k20, .slice A22 m0 k22⟩ := ⟨_, rfl⟩
                      obtain ⟨M, hM⟩ : ∃ M, M = madeM ⟨v, 2, hd, l, cx, x⟩ fill := ⟨_, rfl⟩
                      obtain ⟨Lc, hLc⟩ : ∃ Lc, Lc = modC M hh := ⟨_, rfl⟩
                      obtain ⟨E, hE⟩ : ∃ E, E = M.err := ⟨_, rfl⟩
                      have hsee : ModSees w23 M hh H := by rw [hM, hhh]; exact mdd.sees hv12
                      have hck := fun w (hw : Below w23.heap.size w23 w) => wchk_any w M hh H (hsee.new hw) (by rw [hM]; show 1 ≤ (alph v).length ∧ (alph v).length ≤ 512; rw [alph_length]; omega)
                      rw [← hE, ← hLc] at hck
                      have hbl : w23.heap[W.heap.size + 5]? = some (.cells Lc.toArray 31 (0, 0)) := by rw [hLc, hM, hhh, frm23.mod]; rw [HM2.out.1]; rfl
                      have hll : Lc.length = 16 := by rw [hLc]; rfl
                      have hone : ∀ u ∈ Lc, u.oneCell' = true := by
                        rw [hLc, hhh, ← HVV.out.1.symm, HVV.out.2]
                        simp [modC, Value.oneCell']
                      have HZ := Lib.hid (And.intro hck (And.intro hbl (And.intro hll (And.intro hone (And.intro mdd (And.intro frm23 (And.intro hE (And.intro hLc (And.intro hM (And.intro hhh hv12))))))))))
                      clear hck hbl hll hone mdd frm23 hE hLc hM hhh hsee hv12 hv1 st3 hd3 hw23 el hsz f0 f1 f2 y0 y1 y2 H22 H21 HX
                      clear w22 w21
                      as_aux_lemma =>
                        have hdr : Below w23.heap.size w23 w23.drew := ⟨rfl, rfl, rfl, Nat.le_refl _, fun _ _ => rfl⟩
                        refine wp_region_plan (fun w' => w'.rangeAt (W.heap.size + 5) 0 Lc) (Plan.ofList [0, 1, 2, 3, 4, 5] .nil) (by kernel_rfl) (by kernel_rfl) (by kernel_rfl) (rangeAt_whole HZ.out.2.1) ?_
                        intro I hNI FF hFF
                        have HFF := Lib.hid hFF
                        clear hFF
                        simp only [Plan.ofList, Plan.lay, List.getElem?_cons_succ, List.getElem?_cons_zero]
                        iterate 2 (refine plan_take rfl ?_; refine wpQuiet_load_mid rfl 31 (.tmp 8) rfl (W.heap.size + 5) 0 rfl Lc _ (by rintro _ ⟨j, rfl⟩; exact HFF.out j) Try.underlying31 rfl (by rw [wts_size, HZ.out.2.2.1]) ?_; simp only [Act.put, List.setIfInBounds_toArray, List.set_cons_succ, List.set_cons_zero]; refine wpQuiet_nil ?_)
                        refine plan_step rfl ?_
                        go_wp2_with (go_at_call 44; (with_reducible refine Calls.mono (HZ.out.1 _ hdr) ?_); rintro e w24 ⟨rfl, hb24⟩; have hb24' := below_chain hdr hb24; have H24 := Lib.hid hb24'; clear hb24 hb24')
                        have hsz := HZ.out.2.2.2.2.2.1.size
                        refine ⟨rfl, rangeAt_whole ((H24.out.block _ (by omega)).trans HZ.out.2.1), ?_⟩
                        refine plan_take rfl ?_
                        go_big_quiet_step (fail)
                        refine wpQuiet_nil ?_
                        refine plan_step rfl ?_
                        have hres : w24.heap[W.heap.size + 1]? = some (.cells zeroL.toArray 31 (0, 0)) := (H24.out.block _ (by omega)).trans HZ.out.2.2.2.2.2.1.res
                        have HRS := Lib.hid hres
                        clear hres
                        go_wp2_with (refine wpList_store_wts rfl (.tmp 2) (.tmp 239) rfl (W.heap.size + 1) rfl Lc rfl HZ.out.2.2.1 HZ.out.2.2.2.1 zeroL HRS.out rfl ?_)
                        refine ⟨rfl, rangeAt_whole ((setRow_other _ _ _ _ (by omega)).trans ((H24.out.block _ (by omega)).trans HZ.out.2.1)), ?_⟩
                        refine plan_take rfl ?_
                        go_big_quiet_step (fail)
                        refine wpQuiet_nil ?_
                        refine plan_nil ?_
                        go_wp2_with fail
                        refine bodyPost_ret (results_wts (by rfl) _ _ (W.heap.size + 1) Lc (by rfl) (setRow_heap _ _ _ _ _ _ HRS.out) HZ.out.2.2.1) rfl ?_
                        obtain ⟨-, -, -, -, mdd, frm23, hE, hLc, hM, hhh, hv12⟩ := HZ.out
                        have mdd' : MdD W (w24.setRow (W.heap.size + 1) Lc.toArray) ⟨v, 2, hd, l, cx, x⟩ fill va ve (.slice A9 l c9) (.slice A20 2 k20) (.slice A22 m0 k22) H := mdd.kp (fun k h1 h2 => (setRow_other _ _ _ _ (by omega)).trans (H24.out.block k h2)) (by rw [setRow_size]; exact H24.out.size)
                        refine ⟨hh, H, ?_, ?_, below_setRow (below_chain frm23.below H24.out) _ _ (by omega)⟩
                        · rw [← hM, ← hLc, ← hE]
                          rfl
                        · rw [hhh]
                          exact mdd'.sees hv12
end Go.Proofs.Ytfhaebaegkpkhaa.Fil
