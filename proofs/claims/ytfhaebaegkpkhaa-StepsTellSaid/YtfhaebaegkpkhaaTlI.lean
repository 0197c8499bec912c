/- cupellaw11.Right. · cupellaw12.Planned. Printed by genpti.py. -/
import Derived.Test.YtfhaebaegkpkhaaPlI
import Derived.Test.YtfhaebaegkpkhaaQFork
import Derived.Test.YtfhaebaegkpkhaaMdA
import Derived.Test.YtfhaebaegkpkhaaPnC
set_option linter.unusedVariables false
set_option linter.unusedSimpArgs false
namespace Go.Proofs.Ytfhaebaegkpkhaa.Tl
open Go.RowKit OwnS Byt Cfg Stp Pln QTail RevL
attribute [local go_sem ↓] Kit.execOp_call_slot
attribute [local go_sem] Kit.callSlot_func
/-- What Right hands back: if that is nought, what is asked for may be. -/
def RightPost (W : World) (c : C6) (n : Nat) (limit K : Int) (e : Ending) (w' : World) : Prop := ∃ E : Int, e = .returned (.int .i64 E) ∧ (E = 0 → 1 ≤ n ∧ 1 ≤ limit ∧ (n : Int) + limit ≤ c.c ∧ 1 ≤ K ∧ K ≤ c.v) ∧ Below W.heap.size W w'
set_option maxRecDepth 100000 in
set_option maxHeartbeats 8000000 in
theorem right11_any (W : World) (c : C6) (hc : 0 ≤ c.c ∧ c.c ≤ 1000) (askL : List Value) (pv : Value) (l : List Int) (hin : Ints W pv l) (hl : l.length ≤ 100000) (K limit : Int) (h0 : askL[0]? = some pv) (h33 : askL[33]? = some (.int .i64 K)) (h34 : askL[34]? = some (.int .i64 limit)) :
    Calls Try.prog 82 #[.agg #[.int .i64 c.v, .int .i64 c.d, .int .i64 c.h, .int .i64 c.l, .int .i64 c.c, .int .i64 c.x], .agg askL.toArray] W (RightPost W c l.length limit K) := by
  obtain ⟨A, cp, rfl, -, -⟩ := Sees.form hin
  obtain ⟨w2, hw2⟩ : ∃ w2, w2 = (W.alloc (.cells #[.int .i64 c.v, .int .i64 c.d, .int .i64 c.h, .int .i64 c.l, .int .i64 c.c, .int .i64 c.x] 23)).alloc (.cells askL.toArray 80) := ⟨_, rfl⟩
  have hb2 : Below W.heap.size W w2 := by rw [hw2]; exact ((Below.refl _ _).alloc (Nat.le_refl _) _).alloc (by simp) _
  have hcf : w2.heap[W.heap.size]? = some (.cells [Value.int .i64 c.v, .int .i64 c.d, .int .i64 c.h, .int .i64 c.l, .int .i64 c.c, .int .i64 c.x].toArray 23 (0, 0)) := by rw [hw2, Below.heap_alloc _ _ _ (by simp)]; exact heap_alloc_new W _
  have hask : w2.heap[W.heap.size + 1]? = some (.cells askL.toArray 80 (0, 0)) := by
    rw [hw2]
    have := heap_alloc_new (W.alloc (.cells #[.int .i64 c.v, .int .i64 c.d, .int .i64 c.h, .int .i64 c.l, .int .i64 c.c, .int .i64 c.x] 23)) (.cells askL.toArray 80)
    simpa using this
  obtain ⟨n, hn⟩ : ∃ n, n = l.length := ⟨_, rfl⟩
  have c0 : w2.cell? ⟨W.heap.size, 0, none⟩ = some (.int .i64 c.v) := by rw [cell_of_row _ _ 0 _ _ _ hcf]; rfl
  have c4 : w2.cell? ⟨W.heap.size, 4, none⟩ = some (.int .i64 c.c) := by rw [cell_of_row _ _ 4 _ _ _ hcf]; rfl
  have a0 : w2.cell? ⟨W.heap.size + 1, 0, none⟩ = some (.slice A n cp) := by rw [cell_of_row _ _ 0 _ _ _ hask]; simpa [hn] using h0
  have a33 : w2.cell? ⟨W.heap.size + 1, 33, none⟩ = some (.int .i64 K) := by rw [cell_of_row _ _ 33 _ _ _ hask]; simpa using h33
  have a34 : w2.cell? ⟨W.heap.size + 1, 34, none⟩ = some (.int .i64 limit) := by rw [cell_of_row _ _ 34 _ _ _ hask]; simpa using h34
  have hin2 := hin.new hb2
  rw [← hn] at hl hin2 ⊢
  obtain ⟨cc1, cc2⟩ := hc
  have HW := Lib.hid hw2
  have HC := Lib.hid (And.intro hb2 (And.intro hin2 hn))
  clear hw2 hb2 hcf hask h0 h33 h34 hin hin2 hn

  have hcs : n = 0 ∨ (¬ n = 0 ∧ limit < 1) ∨ (¬ n = 0 ∧ ¬ limit < 1 ∧ c.c < (n : Int)) ∨ (¬ n = 0 ∧ ¬ limit < 1 ∧ ¬ c.c < (n : Int) ∧ c.c < limit) ∨ (¬ n = 0 ∧ ¬ limit < 1 ∧ ¬ c.c < (n : Int) ∧ ¬ c.c < limit ∧ c.c < (n : Int) + limit) ∨ (¬ n = 0 ∧ ¬ limit < 1 ∧ ¬ c.c < (n : Int) ∧ ¬ c.c < limit ∧ ¬ c.c < (n : Int) + limit) := by
    by_cases e1 : n = 0
    · exact .inl e1
    · by_cases e2 : limit < 1
      · exact .inr (.inl ⟨e1, e2⟩)
      · by_cases e3 : c.c < (n : Int)
        · exact .inr (.inr (.inl ⟨e1, e2, e3⟩))
        · by_cases e4 : c.c < limit
          · exact .inr (.inr (.inr (.inl ⟨e1, e2, e3, e4⟩)))
          · by_cases e5 : c.c < (n : Int) + limit
            · exact .inr (.inr (.inr (.inr (.inl ⟨e1, e2, e3, e4, e5⟩))))
            · exact .inr (.inr (.inr (.inr (.inr ⟨e1, e2, e3, e4, e5⟩))))
  rcases hcs with rfl | ⟨e1, e2⟩ | ⟨e1, e2, e3⟩ | ⟨e1, e2, e3, e4⟩ | ⟨e1, e2, e3, e4, e5⟩ | ⟨e1, e2, e3, e4, e5⟩
  · go_enter Try.func82, Try.ntmps82
    go_upto_region 1 with fail
    rw [← HW.out]
    go_wp2_with fail
    go_ret
    exact ⟨_, rfl, (fun h => by cases h), HC.out.1⟩
  · have i1 : ¬ (n : Int) = 0 := by omega
    go_enter Try.func82, Try.ntmps82
    go_upto_region 1 with fail
    rw [← HW.out]
    go_wp2_with fail
    go_ret
    exact ⟨_, rfl, (fun h => by cases h), HC.out.1⟩
  · have i1 : ¬ (n : Int) = 0 := by omega
    go_enter Try.func82, Try.ntmps82
    go_upto_region 1 with fail
    rw [← HW.out]
    go_wp2_with fail
    go_ret
    exact ⟨_, rfl, (fun h => by cases h), HC.out.1⟩
  · have i1 : ¬ (n : Int) = 0 := by omega
    go_enter Try.func82, Try.ntmps82
    go_upto_region 1 with fail
    rw [← HW.out]
    go_wp2_with fail
    go_ret
    exact ⟨_, rfl, (fun h => by cases h), HC.out.1⟩
  · have i1 : ¬ (n : Int) = 0 := by omega
    have i2 : (n : Int) + limit ≤ 2000 := by omega
    have i3 : 0 ≤ (n : Int) + limit := by omega
    go_enter Try.func82, Try.ntmps82
    go_upto_region 1 with fail
    rw [← HW.out]
    go_wp2_with fail
    go_ret
    exact ⟨_, rfl, (fun h => by cases h), HC.out.1⟩
  · have i1 : ¬ (n : Int) = 0 := by omega
    have i2 : (n : Int) + limit ≤ 2000 := by omega
    have i3 : 0 ≤ (n : Int) + limit := by omega
    have HE := Lib.hid (And.intro e1 (And.intro e2 e5))
    go_enter Try.func82, Try.ntmps82
    go_upto_region 1 with fail
    rw [← HW.out]
    go_upto_region 5 with fail
    clear e2 e3 e4 e5 i2 i3
    go_wp2_with fail
    go_loopw [5] (fun v5 wr => ∃ k : Nat, k ≤ n ∧ v5 = .int .i64 (k : Int) ∧ Hid (Below w2.heap.size w2 wr)) (fun v5 _ => n - (intOf v5).toNat)
    case atStart => exact ⟨0, Nat.zero_le _, rfl, Lib.hid (Below.refl _ _)⟩
    case round =>
      obtain ⟨k, hk, rfl, hI⟩ := hrel
      have b0 := (hI.out.cell (block_lt_of_cell c0)).trans c0
      have b1 := (hI.out.cell (block_lt_of_cell a0)).trans a0
      have b33 := (hI.out.cell (block_lt_of_cell a33)).trans a33
      by_cases hlt : k < n
      · have j1 : (k : Int) < (n : Int) := by omega
        have j2 : (k : Int) ≤ 100000 := by omega
        have hkl : k < l.length := by have := HC.out.2.2; omega
        have hse : Sees wr 1 (.slice A n cp) n (intsV l) := by have h7 := HC.out.2.1.new hI.out; unfold Ints at h7; rw [← HC.out.2.2] at h7; exact h7
        obtain ⟨g, o, rfl⟩ := some_addr hse (by omega)
        obtain ⟨t, ht⟩ : ∃ t, l[k]? = some t := ⟨_, List.getElem?_eq_getElem hkl⟩
        have ce := Sees.int hse ht
        have hdr : Below wr.heap.size wr wr.drew := ⟨rfl, rfl, rfl, Nat.le_refl _, fun _ _ => rfl⟩
        have HD := Lib.hid (below_chain hI.out hdr)
        clear hse hkl ht hdr
        by_cases hb : t < 0
        · have hb' : decide (t < 0) = true := decide_eq_true hb
          go_upto_region 8 with fail
          go_quiet (fail)
          go_wp2_with fail
          try (rw [Exit.noGoto_ret])
          go_ret
          exact ⟨_, rfl, (fun h => by cases h), below_chain HC.out.1 (below_drewN' hI.out _)⟩
        · have hb' : decide (t < 0) = false := decide_eq_false hb
          by_cases hb2 : c.v ≤ t
          · go_upto_region 8 with fail
            go_quiet (fail)
            go_wp2_with fail
            try (rw [Exit.noGoto_ret])
            go_ret
            exact ⟨_, rfl, (fun h => by cases h), below_chain HC.out.1 (below_drewN' hI.out _)⟩
          · have hb3 : t < c.v := by omega
            go_upto_region 8 with fail
            go_quiet (fail)
            go_wp2_with fail
            go_roundw
            case rel => exact ⟨k + 1, by omega, by go_num, Lib.hid (below_drewN' hI.out _)⟩
            case measure => simp [intOf]; omega
      · obtain rfl : n = k := by omega
        by_cases k1 : K < 1
        · go_wp2_with fail
          try (rw [Exit.noGoto_ret])
          go_ret
          exact ⟨_, rfl, (fun h => by cases h), below_chain HC.out.1 hI.out⟩
        · by_cases k2 : c.v < K
          · go_wp2_with fail
            try (rw [Exit.noGoto_ret])
            go_ret
            exact ⟨_, rfl, (fun h => by cases h), below_chain HC.out.1 hI.out⟩
          · go_wp2_with fail
            try (rw [Exit.noGoto_ret])
            go_ret
            exact ⟨_, rfl, (fun _ => by have := HE.out; omega), below_chain HC.out.1 hI.out⟩
end Go.Proofs.Ytfhaebaegkpkhaa.Tl

set_option linter.unusedVariables false
set_option linter.unusedSimpArgs false
namespace Go.Proofs.Ytfhaebaegkpkhaa.Tl
open Go.RowKit OwnS Byt Cfg Stp Pln QTail RevL Ten Bpe Fil
attribute [local go_sem ↓] Kit.execOp_call_slot
attribute [local go_sem] Kit.callSlot_func
theorem wpList_load_mid_w {P : Program} {ops : Array Oper} {rest : List Oper} {op : Oper} {a : Act} {w : World} {Q : Exit → Act → World → Prop} (hw : Region.wanted op (yielded ops a.tmps) = true) (ty : TypeId) (x : Operand) (ho : op.op = .load ty x)
    (b o : Nat) (hx : a.eval x = .pointer (some ⟨b, o, none⟩)) (cs : List Value) (d : TypeDesc) (hc : w.rangeAt b o cs)
    (hu : P.underlying ty = some d) (hd : d.isRow = true) (hi : (P.info? ty).map (·.size) = some cs.length)
    (h : wpList P ops Q rest (a.put op.dst (.agg cs.toArray)) w) : wpList P ops Q (op :: rest) a w :=
  wpList_step fun K hK => by rw [if_pos hw]; exact wp_load_mid ty x ho b o hx cs d hc hu hd hi (hK _ _ h)
theorem ask_size : (Try.prog.info? 80).map (·.size) = some 36 := by kernel_rfl
theorem results_planned {fn : Func} {p q u : Tmp} (h : fn.results = #[.cell p 31, .cell q 62, .tmp u]) (tmps : Array Value) (w : World) (g g' : Nat) (L Lp : List Value) (hp : tmps.getD p undef = .pointer (some ⟨g, 0, none⟩)) (hq : tmps.getD q undef = .pointer (some ⟨g', 0, none⟩)) (hg : w.heap[g]? = some (.cells L.toArray 31 (0, 0))) (hg' : w.heap[g']? = some (.cells Lp.toArray 62 (0, 0))) (hL : L.length = 16) (hLp : Lp.length = 9) :
    (results fn tmps).run Try.prog w = .ok (.tuple #[.agg L.toArray, .agg Lp.toArray, tmps.getD u undef]) w := by
  have hp' : tmps[p]?.getD undef = .pointer (some ⟨g, 0, none⟩) := by simpa using hp
  have hq' : tmps[q]?.getD undef = .pointer (some ⟨g', 0, none⟩) := by simpa using hq
  simp [results, h, hp', hq', asAddr, run_loadVar_row w g 31 31 L.toArray (0, 0) _ hg Try.underlying31 (by rfl) (by rw [wts_size, List.size_toArray, hL]), run_loadVar_row w g' 62 62 Lp.toArray (0, 0) _ hg' Try.underlying62 (by rfl) (by rw [plan_size, List.size_toArray, hLp])]
/-- What Planned hands back. -/
def PlannedPost (W : World) (e : Ending) (w' : World) : Prop := ∃ (L Lp : List Value) (b : Bool), e = .returned (.tuple #[.agg L.toArray, .agg Lp.toArray, .bool b]) ∧ L.length = 16 ∧ (∀ u ∈ L, u.oneCell' = true) ∧ (∃ d : Int, 0 ≤ d ∧ L[1]? = some (.int .i64 d)) ∧ Lp.length = 9 ∧ (∀ u ∈ Lp, u.oneCell' = true) ∧ Below W.heap.size W w' ∧ (b = true → ∃ (p : Pln) (ctx K : Int), Lp = planC p ctx K ∧ Okp p ctx K)
def zeroP : List Value := List.replicate 9 (.int .i64 0)
theorem zeroP_one : ∀ u ∈ zeroP, u.oneCell' = true := by decide
theorem planC_one (p : Pln) (ctx K : Int) : ∀ u ∈ planC p ctx K, u.oneCell' = true := by unfold planC; simp [Value.oneCell']
theorem ok_plan {c : C6} (h0 : c.chk = 0) {n : Nat} {limit K : Int} (h : 1 ≤ n ∧ 1 ≤ limit ∧ (n : Int) + limit ≤ c.c ∧ 1 ≤ K ∧ K ≤ c.v) : ∃ p : Pln, planL c (n : Int) limit K = planC p c.c K ∧ Okp p c.c K := by
  refine plan_of h0 ?_
  unfold planErr
  rw [if_neg (by omega), if_neg (by omega), if_neg (by omega)]
set_option maxRecDepth 100000 in
set_option maxHeartbeats 16000000 in
theorem planned_any (W : World) (s0 s1 s2 s3 s4 s5 : Int) (A : Option Addr) (n c : Nat) (fill : List Int) (hf : Ints W (.slice A n c) fill) (hn : n = fill.length) (askL : List Value) (Ap : Option Addr) (np cp : Nat) (l : List Int) (hin : Ints W (.slice Ap np cp) l) (hnp : np = l.length) (K limit : Int) (h0 : askL[0]? = some (.slice Ap np cp)) (h33 : askL[33]? = some (.int .i64 K)) (h34 : askL[34]? = some (.int .i64 limit)) (hlen : askL.length = 36) :
    Calls Try.prog 32 #[.agg #[.int .i64 s0, .int .i64 s1, .int .i64 s2, .int .i64 s3, .int .i64 s4, .int .i64 s5, .slice A n c], .agg askL.toArray] W (PlannedPost W) := by
  obtain ⟨w1, hw1⟩ : ∃ w1, w1 = (((W.alloc (.cells #[.int .i64 s0, .int .i64 s1, .int .i64 s2, .int .i64 s3, .int .i64 s4, .int .i64 s5, .slice A n c] 49)).alloc (.cells askL.toArray 80)).alloc (.cells zeroL.toArray 31)).alloc (.cells zeroP.toArray 62) := ⟨_, rfl⟩
  have hb1 : Below W.heap.size W w1 := by rw [hw1]; exact ((((Below.refl _ _).alloc (Nat.le_refl _) _).alloc (by simp) _).alloc (by simp; omega) _).alloc (by simp; omega) _
  have hz1 : w1.heap.size = W.heap.size + 4 := by rw [hw1]; simp
  have hsp : w1.heap[W.heap.size]? = some (.cells [Value.int .i64 s0, .int .i64 s1, .int .i64 s2, .int .i64 s3, .int .i64 s4, .int .i64 s5, .slice A n c].toArray 49 (0, 0)) := by rw [hw1, Below.heap_alloc _ _ _ (by simp; omega), Below.heap_alloc _ _ _ (by simp; omega), Below.heap_alloc _ _ _ (by simp)]; exact heap_alloc_new W _
  have hask : w1.heap[W.heap.size + 1]? = some (.cells askL.toArray 80 (0, 0)) := by
    rw [hw1, Below.heap_alloc _ _ _ (by simp <;> omega), Below.heap_alloc _ _ _ (by simp <;> omega)]
    have := heap_alloc_new (W.alloc (.cells #[.int .i64 s0, .int .i64 s1, .int .i64 s2, .int .i64 s3, .int .i64 s4, .int .i64 s5, .slice A n c] 49)) (.cells askL.toArray 80)
    simpa using this
  have hr4 : w1.heap[W.heap.size + 1 + 1]? = some (.cells zeroL.toArray 31 (0, 0)) := by
    rw [hw1, Below.heap_alloc _ _ _ (by simp)]
    have := heap_alloc_new ((W.alloc (.cells #[.int .i64 s0, .int .i64 s1, .int .i64 s2, .int .i64 s3, .int .i64 s4, .int .i64 s5, .slice A n c] 49)).alloc (.cells askL.toArray 80)) (.cells zeroL.toArray 31)
    simpa using this
  have hr5 : w1.heap[W.heap.size + 1 + 1 + 1]? = some (.cells zeroP.toArray 62 (0, 0)) := by
    rw [hw1]
    have := heap_alloc_new (((W.alloc (.cells #[.int .i64 s0, .int .i64 s1, .int .i64 s2, .int .i64 s3, .int .i64 s4, .int .i64 s5, .slice A n c] 49)).alloc (.cells askL.toArray 80)).alloc (.cells zeroL.toArray 31)) (.cells zeroP.toArray 62)
    simpa using this
  have a0 : w1.cell? ⟨W.heap.size, 0, none⟩ = some (.int .i64 s0) := by rw [cell_of_row _ _ 0 _ _ _ hsp]; rfl
  have a1 : w1.cell? ⟨W.heap.size, 1, none⟩ = some (.int .i64 s1) := by rw [cell_of_row _ _ 1 _ _ _ hsp]; rfl
  have a2 : w1.cell? ⟨W.heap.size, 2, none⟩ = some (.int .i64 s2) := by rw [cell_of_row _ _ 2 _ _ _ hsp]; rfl
  have a3 : w1.cell? ⟨W.heap.size, 3, none⟩ = some (.int .i64 s3) := by rw [cell_of_row _ _ 3 _ _ _ hsp]; rfl
  have a4 : w1.cell? ⟨W.heap.size, 4, none⟩ = some (.int .i64 s4) := by rw [cell_of_row _ _ 4 _ _ _ hsp]; rfl
  have a5 : w1.cell? ⟨W.heap.size, 5, none⟩ = some (.int .i64 s5) := by rw [cell_of_row _ _ 5 _ _ _ hsp]; rfl
  have a6 : w1.cell? ⟨W.heap.size, 6, none⟩ = some (.slice A n c) := by rw [cell_of_row _ _ 6 _ _ _ hsp]; rfl
  have hmade := made_any w1 s0 s1 s2 s3 s4 s5 A n c fill (hf.new hb1) hn
  unfold specV at hmade
  have HW := Lib.hid hw1
  have HC := Lib.hid (And.intro hb1 (And.intro hmade (And.intro hask (And.intro hr4 (And.intro hr5 hz1)))))
  have HA := Lib.hid (And.intro (hin.new hb1) (And.intro hnp (And.intro h0 (And.intro h33 (And.intro h34 hlen)))))
  clear hw1 hb1 hmade hask hsp hf hn hr4 hr5 hz1 hin hnp h0 h33 h34 hlen
  go_enter Try.func32, Try.ntmps32
  go_upto_region 1 with fail
  change Code.wp _ _ _ _ ((((W.alloc (.cells #[.int .i64 s0, .int .i64 s1, .int .i64 s2, .int .i64 s3, .int .i64 s4, .int .i64 s5, .slice A n c] 49)).alloc (.cells askL.toArray 80)).alloc (.cells zeroL.toArray 31)).alloc (.cells zeroP.toArray 62))
  rw [← HW.out]
  obtain ⟨R4, hR4⟩ : ∃ R4, R4 = W.heap.size + 1 + 1 := ⟨_, rfl⟩
  rw [← hR4]
  obtain ⟨R5, hR5⟩ : ∃ R5, R5 = R4 + 1 := ⟨_, rfl⟩
  rw [← hR5]
  have HR := Lib.hid (And.intro hR4 hR5)
  clear hR4 hR5
  go_wp2_with fail
  with_reducible refine Calls.mono HC.out.2.1 ?_
  rintro e w3 ⟨L, b, rfl, hL, hone, hdim, hb3, hok⟩
  have HO := Lib.hid hok
  have HLL := Lib.hid (And.intro hL (And.intro hone (And.intro hb3 hdim)))
  clear hok a0 a1 a2 a3 a4 a5 a6 hL hone hb3 hdim
  go_upto_region 2 with (refine wpList_store_wts rfl (.tmp 7) (.tmp 12) rfl w3.heap.size rfl L rfl HLL.out.1 HLL.out.2.1 zeroL (heap_alloc_new w3 _) rfl ?_; simp only [Act.put, List.setIfInBounds_toArray, List.set_cons_succ, List.set_cons_zero])
  change Code.wp _ _ _ _ ((w3.alloc (.cells zeroL.toArray 31)).setRow w3.heap.size L.toArray)
  obtain ⟨w4, hw4⟩ : ∃ w4, w4 = (w3.alloc (.cells zeroL.toArray 31)).setRow w3.heap.size L.toArray := ⟨_, rfl⟩
  rw [← hw4]
  have hb34 : Below w3.heap.size w3 w4 := by rw [hw4]; exact Fil.below_setRow ((Below.refl _ _).alloc (Nat.le_refl _) _) _ _ (Nat.le_refl _)
  have hblk : w4.heap[w3.heap.size]? = some (.cells L.toArray 31 (0, 0)) := by rw [hw4]; exact setRow_heap _ _ _ _ _ _ (heap_alloc_new w3 _)
  obtain ⟨Bm, hBm⟩ : ∃ Bm, Bm = w3.heap.size := ⟨_, rfl⟩
  have hb14 := below_chain HLL.out.2.2.1 hb34
  have hBm2 : w1.heap.size ≤ Bm := by rw [hBm]; exact HLL.out.2.2.1.size
  have hr4 : w4.heap[R4]? = some (.cells zeroL.toArray 31 (0, 0)) := by rw [HR.out.1]; exact (hb14.block _ (Array.getElem?_eq_some_iff.1 HC.out.2.2.2.1).1).trans HC.out.2.2.2.1
  have hr5 : w4.heap[R5]? = some (.cells zeroP.toArray 62 (0, 0)) := by rw [HR.out.2, HR.out.1]; exact (hb14.block _ (Array.getElem?_eq_some_iff.1 HC.out.2.2.2.2.1).1).trans HC.out.2.2.2.2.1
  have hak := (hb14.block _ (Array.getElem?_eq_some_iff.1 HC.out.2.2.1).1).trans HC.out.2.2.1
  have H4 := Lib.hid (And.intro (by rw [hBm]; exact hblk : w4.heap[Bm]? = some (.cells L.toArray 31 (0, 0))) (And.intro hr4 (And.intro hr5 (And.intro hak (And.intro (below_chain HC.out.1 hb14) (And.intro hb34 (And.intro hb14 hBm2)))))))
  rw [← hBm]
  clear hw4 hb34 hblk hBm hb14 hBm2 hr4 hr5 hak
  have k0 : w4.cell? ⟨W.heap.size + 1, 0, none⟩ = some (.slice Ap np cp) := by rw [cell_of_row _ _ 0 _ _ _ H4.out.2.2.2.1]; simpa using HA.out.2.2.1
  have hfin : ∀ w (Lp : List Value), Below w4.heap.size w4 w → Lp.length = 9 → (∀ u ∈ Lp, u.oneCell' = true) → ((w.setRow R4 L.toArray).setRow R5 Lp.toArray).heap[R4]? = some (.cells L.toArray 31 (0, 0)) ∧ ((w.setRow R4 L.toArray).setRow R5 Lp.toArray).heap[R5]? = some (.cells Lp.toArray 62 (0, 0)) ∧ Below W.heap.size W ((w.setRow R4 L.toArray).setRow R5 Lp.toArray) := fun w Lp hb h9 h1 => by
    have g4 := (hb.block _ (Array.getElem?_eq_some_iff.1 H4.out.2.1).1).trans H4.out.2.1
    have g5 := (hb.block _ (Array.getElem?_eq_some_iff.1 H4.out.2.2.1).1).trans H4.out.2.2.1
    have hne : R4 ≠ R5 := by have := HR.out.2; omega
    refine ⟨?_, ?_, ?_⟩
    · rw [setRow_other _ _ _ _ hne]; exact setRow_heap _ _ _ _ _ _ g4
    · exact setRow_heap _ _ _ _ _ _ (by rw [setRow_other _ _ _ _ (Ne.symm hne)]; exact g5)
    · exact Fil.below_setRow (Fil.below_setRow (below_chain H4.out.2.2.2.2.1 hb) _ _ (by have := HR.out.1; omega)) _ _ (by have := HR.out.1; have := HR.out.2; omega)
  have HF := Lib.hid hfin
  clear hfin
  by_cases hsmall : b = false ∨ 12 < np
  · rcases (show b = false ∨ (b = true ∧ 12 < np) by cases b; exact .inl rfl; exact .inr ⟨rfl, by simpa using hsmall⟩) with rfl | ⟨rfl, h12⟩
    · go_wp2_with (first | (refine wpList_load_mid rfl 31 (.tmp 7) rfl Bm 0 rfl L _ (rangeAt_whole (H4.out.1)) Try.underlying31 rfl (by rw [wts_size, HLL.out.1]) ?_; simp only [Act.put, List.setIfInBounds_toArray, List.set_cons_succ, List.set_cons_zero]) | (refine wpList_store_wts rfl (.tmp 4) (.tmp 29) rfl R4 rfl L rfl HLL.out.1 HLL.out.2.1 zeroL (H4.out.2.1) rfl ?_; simp only [Act.put]) | (refine wpList_store_row rfl 62 (.tmp 5) (.tmp 30) rfl R5 zeroP.toArray rfl rfl 62 zeroP.toArray (by rw [setRow_other _ _ _ _ (by have := HR.out.2; omega)]; exact H4.out.2.2.1) plan_size rfl (all_oneCell_toArray zeroP_one) ?_; simp only [Act.put]))
      obtain ⟨q1, q2, q3⟩ := HF.out w4 zeroP (Below.refl _ _) rfl zeroP_one
      exact bodyPost_ret (results_planned (by rfl) _ _ R4 R5 L zeroP rfl rfl q1 q2 HLL.out.1 rfl) rfl ⟨L, zeroP, false, rfl, HLL.out.1, HLL.out.2.1, HLL.out.2.2.2, rfl, zeroP_one, q3, fun h => by cases h⟩
    · have j1 : (12 : Int) < (np : Int) := by omega
      go_wp2_with (first | (refine wpList_load_mid rfl 31 (.tmp 7) rfl Bm 0 rfl L _ (rangeAt_whole (H4.out.1)) Try.underlying31 rfl (by rw [wts_size, HLL.out.1]) ?_; simp only [Act.put, List.setIfInBounds_toArray, List.set_cons_succ, List.set_cons_zero]) | (refine wpList_store_wts rfl (.tmp 4) (.tmp 29) rfl R4 rfl L rfl HLL.out.1 HLL.out.2.1 zeroL (H4.out.2.1) rfl ?_; simp only [Act.put]) | (refine wpList_store_row rfl 62 (.tmp 5) (.tmp 30) rfl R5 zeroP.toArray rfl rfl 62 zeroP.toArray (by rw [setRow_other _ _ _ _ (by have := HR.out.2; omega)]; exact H4.out.2.2.1) plan_size rfl (all_oneCell_toArray zeroP_one) ?_; simp only [Act.put]))
      obtain ⟨q1, q2, q3⟩ := HF.out w4 zeroP (Below.refl _ _) rfl zeroP_one
      exact bodyPost_ret (results_planned (by rfl) _ _ R4 R5 L zeroP rfl rfl q1 q2 HLL.out.1 rfl) rfl ⟨L, zeroP, false, rfl, HLL.out.1, HLL.out.2.1, HLL.out.2.2.2, rfl, zeroP_one, q3, fun h => by cases h⟩
  · have hbt : b = true := by cases b; exact absurd (.inl rfl) hsmall; rfl
    subst hbt
    have hnp : np ≤ 12 := by omega
    have j1 : (np : Int) ≤ 12 := by omega
    have j2 : ¬ (12 : Int) < (np : Int) := by omega
    obtain ⟨s, M, h, H, hs, hM, herr, hLe, hsee⟩ := HO.out rfl
    have hwat : WAt w4 Bm M h H := ⟨by rw [← hLe]; exact H4.out.1, hsee.new H4.out.2.2.2.2.2.1⟩
    have hc0 : M.c.chk = 0 := by
      refine Classical.byContradiction fun h0 => ?_
      unfold Mod.err at herr
      rw [if_pos h0] at herr
      exact h0 herr
    obtain ⟨m0, m1, m2, m3, m4, m5, -⟩ := rcells hwat
    obtain ⟨M0, hM0⟩ : ∃ M0, M0 = M.c := ⟨_, rfl⟩
    rw [← hM0] at hc0 m0 m1 m2 m3 m4 m5
    obtain ⟨-, -, -, -, ⟨g4, g5⟩, -⟩ := bounds_of hc0
    have hri := right11_any w4 M0 ⟨by omega, by omega⟩ askL (.slice Ap np cp) l (HA.out.1.new H4.out.2.2.2.2.2.2.1) (by have := HA.out.2.1; omega) K limit HA.out.2.2.1 HA.out.2.2.2.1 HA.out.2.2.2.2.1
    rw [← HA.out.2.1] at hri
    have HS := Lib.hid (And.intro hc0 hri)
    clear hsmall hs hM herr hLe hsee hwat hc0 hM0 hri g4 g5 HO
    go_upto_region 3 with (first | (refine wpList_load_mid_w (by kernel_rfl) 80 (.tmp 3) rfl (W.heap.size + 1) 0 rfl askL _ (rangeAt_whole H4.out.2.2.2.1) Try.underlying80 rfl (by rw [ask_size, HA.out.2.2.2.2.2]) ?_; simp only [Act.put, List.setIfInBounds_toArray, List.set_cons_succ, List.set_cons_zero]) | (go_at_call 82; (with_reducible refine Calls.mono HS.out.2 ?_); rintro e w5 ⟨E, rfl, hE, hb5⟩; have H5 := Lib.hid (And.intro hE hb5); clear hE hb5))
    · go_wp2_with (first | (refine wpList_load_mid rfl 31 (.tmp 7) rfl Bm 0 rfl L _ (rangeAt_whole ((H5.out.2.block _ (Array.getElem?_eq_some_iff.1 H4.out.1).1).trans H4.out.1)) Try.underlying31 rfl (by rw [wts_size, HLL.out.1]) ?_; simp only [Act.put, List.setIfInBounds_toArray, List.set_cons_succ, List.set_cons_zero]) | (refine wpList_store_wts rfl (.tmp 4) (.tmp 29) rfl R4 rfl L rfl HLL.out.1 HLL.out.2.1 zeroL ((H5.out.2.block _ (Array.getElem?_eq_some_iff.1 H4.out.2.1).1).trans H4.out.2.1) rfl ?_; simp only [Act.put]) | (refine wpList_store_row rfl 62 (.tmp 5) (.tmp 30) rfl R5 zeroP.toArray rfl rfl 62 zeroP.toArray (by rw [setRow_other _ _ _ _ (by have := HR.out.2; omega)]; exact (H5.out.2.block _ (Array.getElem?_eq_some_iff.1 H4.out.2.2.1).1).trans H4.out.2.2.1) plan_size rfl (all_oneCell_toArray zeroP_one) ?_; simp only [Act.put]))
      obtain ⟨q1, q2, q3⟩ := HF.out w5 zeroP H5.out.2 rfl zeroP_one
      exact bodyPost_ret (results_planned (by rfl) _ _ R4 R5 L zeroP rfl rfl q1 q2 HLL.out.1 rfl) rfl ⟨L, zeroP, false, rfl, HLL.out.1, HLL.out.2.1, HLL.out.2.2.2, rfl, zeroP_one, q3, fun h => by cases h⟩
    · rename_i h9 K9 a9
      have hE0 : E = 0 := by simpa using h9
      clear h9
      obtain ⟨p, hp1, hp2⟩ := ok_plan HS.out.1 (H5.out.1 hE0)
      have hak5 := (H5.out.2.block _ (Array.getElem?_eq_some_iff.1 H4.out.2.2.2.1).1).trans H4.out.2.2.2.1
      have hbl5 := (H5.out.2.block _ (Array.getElem?_eq_some_iff.1 H4.out.1).1).trans H4.out.1
      have e0 := (H5.out.2.cell (block_lt_of_cell m0)).trans m0
      have e1 := (H5.out.2.cell (block_lt_of_cell m1)).trans m1
      have e2 := (H5.out.2.cell (block_lt_of_cell m2)).trans m2
      have e3 := (H5.out.2.cell (block_lt_of_cell m3)).trans m3
      have e4 := (H5.out.2.cell (block_lt_of_cell m4)).trans m4
      have e5 := (H5.out.2.cell (block_lt_of_cell m5)).trans m5
      have x0 : w5.cell? ⟨W.heap.size + 1, 0, none⟩ = some (.slice Ap np cp) := by rw [cell_of_row _ _ 0 _ _ _ hak5]; simpa using HA.out.2.2.1
      have x33 : w5.cell? ⟨W.heap.size + 1, 33, none⟩ = some (.int .i64 K) := by rw [cell_of_row _ _ 33 _ _ _ hak5]; simpa using HA.out.2.2.2.1
      have x34 : w5.cell? ⟨W.heap.size + 1, 34, none⟩ = some (.int .i64 limit) := by rw [cell_of_row _ _ 34 _ _ _ hak5]; simpa using HA.out.2.2.2.2.1
      have hR4m : R4 < Bm := by have := HR.out.1; have := HC.out.2.2.2.2.2; have := H4.out.2.2.2.2.2.2.2; omega
      have hR5m : R5 < Bm := by have := HR.out.1; have := HR.out.2; have := HC.out.2.2.2.2.2; have := H4.out.2.2.2.2.2.2.2; omega
      have n1 : Bm ≠ R4 := by omega
      have n2 : Bm ≠ R5 := by omega
      have n3 : W.heap.size + 1 ≠ R4 := by have := HR.out.1; omega
      have n4 : W.heap.size + 1 ≠ R5 := by have := HR.out.1; have := HR.out.2; omega
      have HX := Lib.hid (And.intro hp1 (And.intro hp2 (And.intro hbl5 (And.intro n1 n2))))
      clear hp1 hp2 hak5 hE0 m0 m1 m2 m3 m4 m5 k0
      refine wp_region_plan (fun w' => Keeps w5 w' (fun q => q = R4 ∨ q = R5)) (Plan.ofList [0, 1, 2, 3, 4, 6, 7, 8, 9] (.fork 5 (Plan.ofList [10, 11, 12, 13] .nil) 11 (Plan.ofList [5, 10, 12, 13] .nil))) (by kernel_rfl) (by kernel_rfl) (by kernel_rfl) ((Keeps.refl _ _).drew) ?_
      intro I hNI FF hFF
      have G1 : ∀ j, (FF j).rangeAt Bm 0 L := fun j => rangeAt_whole (((hFF j).block Bm (Array.getElem?_eq_some_iff.1 hbl5).1 (by rintro (h | h); exact n1 h; exact n2 h)).trans hbl5)
      have y0 : ∀ j, (FF j).cell? _ = _ := fun j => (hFF j).cell e0 (by rintro (h | h); exact n1 h; exact n2 h)
      have y1 : ∀ j, (FF j).cell? _ = _ := fun j => (hFF j).cell e1 (by rintro (h | h); exact n1 h; exact n2 h)
      have y2 : ∀ j, (FF j).cell? _ = _ := fun j => (hFF j).cell e2 (by rintro (h | h); exact n1 h; exact n2 h)
      have y3 : ∀ j, (FF j).cell? _ = _ := fun j => (hFF j).cell e3 (by rintro (h | h); exact n1 h; exact n2 h)
      have y4 : ∀ j, (FF j).cell? _ = _ := fun j => (hFF j).cell e4 (by rintro (h | h); exact n1 h; exact n2 h)
      have y5 : ∀ j, (FF j).cell? _ = _ := fun j => (hFF j).cell e5 (by rintro (h | h); exact n1 h; exact n2 h)
      have z0 : ∀ j, (FF j).cell? _ = _ := fun j => (hFF j).cell x0 (by rintro (h | h); exact n3 h; exact n4 h)
      have z33 : ∀ j, (FF j).cell? _ = _ := fun j => (hFF j).cell x33 (by rintro (h | h); exact n3 h; exact n4 h)
      have z34 : ∀ j, (FF j).cell? _ = _ := fun j => (hFF j).cell x34 (by rintro (h | h); exact n3 h; exact n4 h)
      have HG := Lib.hid G1
      clear hFF G1 hbl5 n1 n2 n3 n4 e0 e1 e2 e3 e4 e5 x0 x33 x34 hR4m hR5m
      simp only [Plan.ofList, Plan.lay, List.getElem?_cons_succ, List.getElem?_cons_zero]
      refine plan_take rfl ?_
      refine wpQuiet_load_mid rfl 31 (.tmp 7) rfl Bm 0 rfl L _ (by rintro _ ⟨j, rfl⟩; exact HG.out j) Try.underlying31 rfl (by rw [wts_size, HLL.out.1]) ?_
      simp only [Act.put, List.setIfInBounds_toArray, List.set_cons_succ, List.set_cons_zero]
      refine wpQuiet_nil ?_
      iterate 8 (refine plan_take rfl ?_; go_big_quiet_step (fail); refine wpQuiet_nil ?_)
      have hg4 := (H5.out.2.block _ (Array.getElem?_eq_some_iff.1 H4.out.2.1).1).trans H4.out.2.1
      have hg5 := (H5.out.2.block _ (Array.getElem?_eq_some_iff.1 H4.out.2.2.1).1).trans H4.out.2.2.1
      have hne : R5 ≠ R4 := by have := HR.out.2; omega
      have hd5 : Below w4.heap.size w4 w5.drew := below_chain H5.out.2 ⟨rfl, rfl, rfl, Nat.le_refl _, fun _ _ => rfl⟩
      obtain ⟨q1, q2, q3⟩ := HF.out w5.drew (planL M0 (np : Int) limit K) hd5 rfl (by rw [HX.out.1]; exact planC_one _ _ _)
      have kk4 : Keeps w5 (w5.drew.setRow R4 L.toArray) (fun q => q = R4 ∨ q = R5) := ⟨rfl, rfl, rfl, by simp [World.setRow], fun b hb hn => setRow_other _ _ _ _ (fun e => hn (.inl e))⟩
      have kk5 : Keeps w5 ((w5.drew.setRow R4 L.toArray).setRow R5 (planL M0 (np : Int) limit K).toArray) (fun q => q = R4 ∨ q = R5) := ⟨rfl, rfl, rfl, by simp [World.setRow], fun b hb hn => (setRow_other _ _ _ _ (fun e => hn (.inr e))).trans (setRow_other _ _ _ _ (fun e => hn (.inl e)))⟩
      have HQ := Lib.hid (And.intro hg4 (And.intro hg5 (And.intro hne (And.intro kk4 (And.intro kk5 (And.intro q1 (And.intro q2 q3)))))))
      clear hg4 hg5 hne hd5 q1 q2 q3 kk4 kk5 y0 y1 y2 y3 y4 y5 z0 z33 z34
      refine plan_fork ?_ ?_
      · go_wp2_with fail
        refine ⟨rfl, (Keeps.refl _ _).drew, ?_⟩
        refine plan_take rfl ?_
        go_big_quiet_step (fail)
        refine wpQuiet_nil ?_
        refine plan_step rfl ?_
        go_wp2_with (refine wpList_store_wts rfl (.tmp 4) (.tmp 31) rfl R4 rfl L rfl HLL.out.1 HLL.out.2.1 zeroL HQ.out.1 rfl ?_; simp only [Act.put])
        refine ⟨rfl, HQ.out.2.2.2.1, ?_⟩
        refine plan_step rfl ?_
        go_wp2_with (refine wpList_store_row rfl 62 (.tmp 5) (.tmp 41) rfl R5 (planL M0 (np : Int) limit K).toArray rfl rfl 62 zeroP.toArray (by rw [setRow_other _ _ _ _ HQ.out.2.2.1]; exact HQ.out.2.1) plan_size rfl (all_oneCell_toArray (by rw [HX.out.1]; exact planC_one _ _ _)) ?_; simp only [Act.put])
        refine ⟨rfl, HQ.out.2.2.2.2.1, ?_⟩
        refine plan_take rfl ?_
        go_big_quiet_step (fail)
        refine wpQuiet_nil ?_
        refine plan_nil ?_
        go_wp2_with fail
        exact bodyPost_ret (results_planned (by rfl) _ _ R4 R5 L (planL M0 (np : Int) limit K) rfl rfl HQ.out.2.2.2.2.2.1 HQ.out.2.2.2.2.2.2.1 HLL.out.1 rfl) rfl ⟨L, planL M0 (np : Int) limit K, true, rfl, HLL.out.1, HLL.out.2.1, HLL.out.2.2.2, rfl, (by rw [HX.out.1]; exact planC_one _ _ _), HQ.out.2.2.2.2.2.2.2, fun _ => ⟨p, _, _, HX.out.1, HX.out.2.1⟩⟩
      · go_wp2_with (refine wpList_store_wts rfl (.tmp 4) (.tmp 31) rfl R4 rfl L rfl HLL.out.1 HLL.out.2.1 zeroL HQ.out.1 rfl ?_; simp only [Act.put])
        refine ⟨rfl, HQ.out.2.2.2.1, ?_⟩
        refine plan_step rfl ?_
        go_wp2_with fail
        refine ⟨rfl, HQ.out.2.2.2.1, ?_⟩
        refine plan_take rfl ?_
        go_big_quiet_step (fail)
        refine wpQuiet_nil ?_
        refine plan_step rfl ?_
        go_wp2_with (refine wpList_store_row rfl 62 (.tmp 5) (.tmp 41) rfl R5 (planL M0 (np : Int) limit K).toArray rfl rfl 62 zeroP.toArray (by rw [setRow_other _ _ _ _ HQ.out.2.2.1]; exact HQ.out.2.1) plan_size rfl (all_oneCell_toArray (by rw [HX.out.1]; exact planC_one _ _ _)) ?_; simp only [Act.put])
        refine ⟨rfl, HQ.out.2.2.2.2.1, ?_⟩
        refine plan_take rfl ?_
        go_big_quiet_step (fail)
        refine wpQuiet_nil ?_
        refine plan_nil ?_
        go_wp2_with fail
        exact bodyPost_ret (results_planned (by rfl) _ _ R4 R5 L (planL M0 (np : Int) limit K) rfl rfl HQ.out.2.2.2.2.2.1 HQ.out.2.2.2.2.2.2.1 HLL.out.1 rfl) rfl ⟨L, planL M0 (np : Int) limit K, true, rfl, HLL.out.1, HLL.out.2.1, HLL.out.2.2.2, rfl, (by rw [HX.out.1]; exact planC_one _ _ _), HQ.out.2.2.2.2.2.2.2, fun _ => ⟨p, _, _, HX.out.1, HX.out.2.1⟩⟩
end Go.Proofs.Ytfhaebaegkpkhaa.Tl
