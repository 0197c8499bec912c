/- The reference's pool: what is asked of it. -/
import Derived.Test.YtackjeckafoojaaKvPa
set_option linter.unusedVariables false
set_option linter.unusedSimpArgs false
namespace Go.Proofs.Ytackjeckafoojaa.Kv
open Go.RowKit
attribute [local go_sem ↓] Kit.execOp_call_slot
attribute [local go_sem] Kit.callSlot_func
def refRight (rows : List RRow) (id : Int) : Bool := if 0 ≤ id then ((rows[id.toNat]?).map (·.o)).getD false else false
def pageIn (page : Int) (r : RRow) : Nat := if r.o then r.ps.countP (fun p : Nat => (p : Int) == page) else 0
theorem refCount_eq (rows : List RRow) (page : Int) : refCount rows page = (rows.map (pageIn page)).sum := rfl
/-- Rows that are few, and of few pages. -/
def Tame (rows : List RRow) : Prop := rows.length ≤ 100 ∧ ∀ r ∈ rows, r.ps.length ≤ 256 ∧ r.l.length ≤ 1000
theorem tame_sum {rows : List RRow} (h : Tame rows) (page : Int) (i : Nat) : ((rows.take i).map (pageIn page)).sum ≤ 25600 := by
  have h1 : ∀ l : List RRow, (∀ r ∈ l, r.ps.length ≤ 256) → (l.map (pageIn page)).sum ≤ l.length * 256 := by
    intro l
    induction l with
    | nil => intro _; simp
    | cons a l ih =>
      intro hl
      have ha := hl a (List.mem_cons_self ..)
      have hb : pageIn page a ≤ 256 := by
        unfold pageIn
        split
        · exact Nat.le_trans (List.countP_le_length) ha
        · omega
      have := ih fun r hr => hl r (List.mem_cons_of_mem _ hr)
      simp only [List.map_cons, List.sum_cons, List.length_cons]
      omega
  have h2 := h1 (rows.take i) fun r hr => (h.2 r (List.mem_of_mem_take hr)).1
  have h3 : (rows.take i).length ≤ 100 := by rw [List.length_take]; have := h.1; omega
  omega
section
variable {W : World} {ρ : Nat → Option RRole} {Y : RLay} {p z : Nat} {rows : List RRow}
theorem right_R (h : RefAt W ρ Y p z rows) (id : Int) (hn : rows.length ≤ 100) : Calls Try.prog 38 #[.pointer (some ⟨Y.r, 0, none⟩), .int .i64 id] W fun e w' => e = .returned (.bool (refRight rows id)) ∧ W = w' := by
  obtain ⟨c0, c1, c2, -⟩ := h.cells
  obtain ⟨A, cp, hv⟩ := h.form
  rw [hv] at c0
  have hn' : (rows.length : Int) ≤ 100 := by omega
  by_cases h0 : 0 ≤ id
  · obtain ⟨i, rfl⟩ := Int.eq_ofNat_of_zero_le h0
    have e1 : refRight rows (i : Int) = ((rows[i]?).map (·.o)).getD false := by unfold refRight; rw [if_pos h0]; simp
    by_cases hi : i < rows.length
    · obtain ⟨r, hr⟩ : ∃ r, rows[i]? = some r := ⟨_, List.getElem?_eq_getElem hi⟩
      obtain ⟨g, cap, hv2, -, -, x0, x1, x2, -⟩ := h.row hr
      rw [hv] at hv2
      injection hv2 with hv2 _ hv3
      subst hv2
      subst hv3
      rw [e1, hr]
      simp only [Option.map_some, Option.getD_some]
      have hi' : (i : Int) < (rows.length : Int) := by omega
      have h1 : ¬ (i : Int) < 0 := by omega
      obtain ⟨o, ho⟩ : ∃ o, o = r.o := ⟨_, rfl⟩
      rw [← ho] at x2 ⊢
      clear h e1 hv hi hr ho h0
      go_enter Try.func38, Try.ntmps38
      go_wp2_with fail
      go_ret
      exact ⟨rfl, rfl⟩
    · rw [e1, List.getElem?_eq_none (by omega)]
      have hi' : ¬ (i : Int) < (rows.length : Int) := by omega
      have h1 : ¬ (i : Int) < 0 := by omega
      clear h e1 hv h0
      go_enter Try.func38, Try.ntmps38
      go_wp2_with fail
      go_ret
      exact ⟨rfl, rfl⟩
  · have e1 : refRight rows id = false := by unfold refRight; rw [if_neg h0]
    rw [e1]
    have h1 : id < 0 := by omega
    clear h e1 hv
    go_enter Try.func38, Try.ntmps38
    go_wp2_with fail
    go_ret
    exact ⟨rfl, rfl⟩
set_option maxRecDepth 100000 in
set_option maxHeartbeats 1000000 in
theorem count_R (h : RefAt W ρ Y p z rows) (page : Int) (ht : Tame rows) : Calls Try.prog 45 #[.pointer (some ⟨Y.r, 0, none⟩), .int .i64 page] W fun e w' => e = .returned (.int .i64 (refCount rows page : Int)) ∧ W = w' := by
  obtain ⟨c0, c1, c2, -⟩ := h.cells
  obtain ⟨A, cp, hv⟩ := h.form
  rw [hv] at c0
  have hn' : (rows.length : Int) ≤ 100 := by have := ht.1; omega
  have H := Lib.hid (And.intro h (And.intro ht hv))
  clear h ht hv
  go_enter Try.func45, Try.ntmps45
  go_wp2_with fail
  go_loopw [5, 6] (fun vn vi wr => ∃ i : Nat, vi = .int .i64 i ∧ i ≤ rows.length ∧ vn = .int .i64 (((rows.take i).map (pageIn page)).sum : Int) ∧ wr = W) (fun _ vi _ => rows.length - (intOf vi).toNat)
  case atStart => exact ⟨0, rfl, Nat.zero_le _, rfl, rfl⟩
  case round =>
    obtain ⟨i, rfl, hi, rfl, rfl⟩ := hrel
    have i1 : (i : Int) ≤ 100 := by omega
    have n1 : (((rows.take i).map (pageIn page)).sum : Int) ≤ 25600 := by have := tame_sum H.out.2.1 page i; omega
    obtain ⟨n, hn⟩ : ∃ n, n = ((rows.take i).map (pageIn page)).sum := ⟨_, rfl⟩
    rw [← hn] at n1 ⊢
    by_cases hlt : i < rows.length
    · have hlt' : (i : Int) < (rows.length : Int) := by omega
      have i2 : ¬ (i : Int) < 0 := by omega
      obtain ⟨r, hr⟩ : ∃ r, rows[i]? = some r := ⟨_, List.getElem?_eq_getElem hlt⟩
      obtain ⟨g, cap, hv2, -, -, x0, x1, x2, -⟩ := H.out.1.row hr
      rw [H.out.2.2] at hv2
      injection hv2 with hv2 _ hv3
      subst hv2
      subst hv3
      obtain ⟨A2, cp2, hpf⟩ := H.out.1.pForm hr
      have hpo := H.out.1.p i r hr
      rw [hpf] at x1 hpo
      have hps : r.ps.length ≤ 256 := (H.out.2.1.2 r (List.mem_of_getElem? hr)).1
      have hnext : ((rows.take (i + 1)).map (pageIn page)).sum = n + pageIn page r := by
        rw [List.take_succ_eq_append_getElem hlt, List.map_append, List.sum_append, ← hn]
        have : rows[i] = r := by rw [List.getElem?_eq_getElem hlt] at hr; exact Option.some.inj hr
        rw [this]; simp
      obtain ⟨ps, hps0⟩ : ∃ ps, ps = r.ps := ⟨_, rfl⟩
      obtain ⟨o, ho⟩ : ∃ o, o = r.o := ⟨_, rfl⟩
      have hpi : pageIn page r = if o then ps.countP (fun p : Nat => (p : Int) == page) else 0 := by rw [hps0, ho]; rfl
      rw [hpi] at hnext
      rw [← hps0] at x1 hpo hps
      rw [← ho] at x2
      have HX := Lib.hid (And.intro hpo hnext)
      have hps' : (ps.length : Int) ≤ 256 := by omega
      clear hpf hpo hnext hpi hps0 ho hn hr
      cases o with
      | false =>
        go_wp2_with fail
        go_loopw [5, 7] (fun vn vk wr' => vn = .int .i64 n ∧ vk = .int .i64 0 ∧ wr' = wr) (fun _ _ _ => 0)
        case atStart => exact ⟨rfl, rfl, rfl⟩
        case round =>
          obtain ⟨rfl, rfl, rfl⟩ := hrel
          by_cases h0 : 0 < ps.length
          · have h0' : (0 : Int) < (ps.length : Int) := by omega
            go_wp2_with fail
            go_roundw
            case rel => exact ⟨i + 1, by go_num, by omega, by rw [HX.out.2]; simp, trivial⟩
            case measure => simp [intOf]; omega
          · have h0' : ¬ (0 : Int) < (ps.length : Int) := by omega
            go_wp2_with fail
            go_roundw
            case rel => exact ⟨i + 1, by go_num, by omega, by rw [HX.out.2]; simp, trivial⟩
            case measure => simp [intOf]; omega
      | true =>
        go_wp2_with fail
        go_loopw [5, 7] (fun vn vk wr' => ∃ k : Nat, vk = .int .i64 k ∧ k ≤ ps.length ∧ vn = .int .i64 ((n + (ps.take k).countP (fun p : Nat => (p : Int) == page) : Nat) : Int) ∧ wr' = wr) (fun _ vk _ => ps.length - (intOf vk).toNat)
        case atStart => exact ⟨0, rfl, Nat.zero_le _, by simp, rfl⟩
        case round =>
          obtain ⟨k, rfl, hk, rfl, rfl⟩ := hrel
          have k1 : (k : Int) ≤ 256 := by omega
          have k3 : ((n + (ps.take k).countP (fun p : Nat => (p : Int) == page) : Nat) : Int) ≤ 25856 := by
            have := List.countP_le_length (p := fun p : Nat => (p : Int) == page) (l := ps.take k)
            rw [List.length_take] at this
            omega
          obtain ⟨m, hm⟩ : ∃ m, m = n + (ps.take k).countP (fun p : Nat => (p : Int) == page) := ⟨_, rfl⟩
          rw [← hm] at k3 ⊢
          by_cases hkl : k < ps.length
          · have hkl' : (k : Int) < (ps.length : Int) := by omega
            have k4 : ¬ (k : Int) < 0 := by omega
            obtain ⟨g2, cp3, e2, y0⟩ : ∃ g cap, (Value.slice A2 ps.length cp2) = .slice (some ⟨g, 0, none⟩) ps.length cap ∧ wr.cell? ⟨g, k, none⟩ = some (.int .i64 (ps[k] : Int)) := by
              obtain ⟨g, cap, e, _, hc⟩ := own_read HX.out.1 (by omega)
              exact ⟨g, cap, e, hc k _ (by simp [ints, List.getElem?_eq_getElem hkl])⟩
            injection e2 with e2 _ e3
            subst e2
            subst e3
            have hstep : (ps.take (k + 1)).countP (fun p : Nat => (p : Int) == page) = (ps.take k).countP (fun p : Nat => (p : Int) == page) + (if (ps[k] : Int) = page then 1 else 0) := by
              rw [List.take_succ_eq_append_getElem hkl, List.countP_append, List.countP_singleton]
              congr 1
              by_cases hq : (ps[k] : Int) = page <;> simp [hq]
            obtain ⟨q, hq⟩ : ∃ q, q = ps[k] := ⟨_, rfl⟩
            rw [← hq] at y0 hstep
            have HM := Lib.hid (And.intro hm hstep)
            clear hm hstep hq
            by_cases hqp : (q : Int) = page
            · subst hqp
              go_wp2_with fail
              go_roundw
              case rel => exact ⟨k + 1, by go_num, by omega, by have h1 := HM.out.1; have h2 := HM.out.2; rw [h2, if_pos rfl, ← Nat.add_assoc, ← h1]; go_num, trivial⟩
              case measure => simp [intOf]; omega
            · go_wp2_with fail
              go_roundw
              case rel => exact ⟨k + 1, by go_num, by omega, by have h1 := HM.out.1; have h2 := HM.out.2; rw [h2, if_neg hqp, Nat.add_zero, ← h1], trivial⟩
              case measure => simp [intOf]; omega
          · have hkl' : ¬ (k : Int) < (ps.length : Int) := by omega
            obtain rfl : k = ps.length := by omega
            rw [List.take_length] at hm
            have HM := Lib.hid hm
            clear hm
            go_wp2_with fail
            go_roundw
            case rel => exact ⟨i + 1, by go_num, by omega, by rw [HX.out.2, HM.out]; rfl, trivial⟩
            case measure => simp [intOf]; omega
    · have hlt' : ¬ (i : Int) < (rows.length : Int) := by omega
      obtain rfl : i = rows.length := by omega
      rw [List.take_length] at hn
      have HN := Lib.hid hn
      clear hn
      go_wp2_with fail
      go_ret
      exact ⟨by rw [refCount_eq, ← HN.out]; rfl, rfl⟩
def refFirst (rows : List RRow) (p : Nat) : Int := match (List.range p).find? fun i : Nat => refCount rows (i : Int) == 0 with
  | some i => (i : Int)
  | none => -1
def refFree (rows : List RRow) (p : Nat) : Nat := ((List.range p).filter fun i : Nat => refCount rows (i : Int) == 0).length
theorem refFree_succ (rows : List RRow) (p : Nat) : refFree rows (p + 1) = refFree rows p + (if refCount rows (p : Int) = 0 then 1 else 0) := by
  unfold refFree
  rw [List.range_succ, List.filter_append, List.length_append]
  by_cases h : refCount rows (p : Int) = 0 <;> simp [h]
theorem refFree_le (rows : List RRow) (p : Nat) : refFree rows p ≤ p := by
  induction p with
  | zero => simp [refFree]
  | succ p ih => rw [refFree_succ]; split <;> omega
theorem find_range {f : Nat → Bool} {p k : Nat} (hk : k < p) (h : f k = true) (h0 : ∀ j, j < k → f j = false) : (List.range p).find? f = some k := by
  induction p with
  | zero => omega
  | succ p ih =>
    rw [List.range_succ, List.find?_append]
    rcases Nat.lt_or_ge k p with hlt | hge
    · rw [ih hlt]; rfl
    · obtain rfl : k = p := by omega
      rw [List.find?_eq_none.2 (by intro j hj; rw [h0 j (List.mem_range.1 hj)]; simp)]
      simp [h]
set_option maxRecDepth 100000 in
theorem first_R (h : RefAt W ρ Y p z rows) (ht : Tame rows) (hp : p ≤ 256) : Calls Try.prog 53 #[.pointer (some ⟨Y.r, 0, none⟩)] W fun e w' => e = .returned (.int .i64 (refFirst rows p)) ∧ W = w' := by
  obtain ⟨c0, c1, c2, -⟩ := h.cells
  have hp' : (p : Int) ≤ 256 := by omega
  have H := Lib.hid (And.intro h ht)
  clear h ht
  go_enter Try.func53, Try.ntmps53
  go_wp2_with fail
  go_loopw [3] (fun vi wr => ∃ i : Nat, vi = .int .i64 i ∧ i ≤ p ∧ Hid (∀ j, j < i → refCount rows (j : Int) ≠ 0) ∧ wr = W) (fun vi _ => p - (intOf vi).toNat)
  case atStart => exact ⟨0, rfl, Nat.zero_le _, Lib.hid (fun j hj => by omega), rfl⟩
  case round =>
    obtain ⟨i, rfl, hi, hN, rfl⟩ := hrel
    have i1 : (i : Int) ≤ 256 := by omega
    by_cases hlt : i < p
    · have hlt' : (i : Int) < (p : Int) := by omega
      have HC := Lib.hid (count_R H.out.1 (i : Int) H.out.2)
      obtain ⟨c, hc⟩ : ∃ c, c = refCount rows (i : Int) := ⟨_, rfl⟩
      rw [← hc] at HC
      have HCc := Lib.hid hc
      clear hc
      go_wp2_with fail
      with_reducible refine Calls.mono HC.out ?_
      rintro e w1 ⟨rfl, rfl⟩
      by_cases hc0 : c = 0
      · subst hc0
        go_wp2_with fail
        go_ret
        refine ⟨?_, rfl⟩
        unfold refFirst
        rw [find_range (k := i) hlt (by rw [← HCc.out]; rfl) (fun j hj => by simpa using hN.out j hj)]
        rfl
      · have hc0' : ¬ (c : Int) = 0 := by omega
        have HN' : Hid (∀ j, j < i + 1 → refCount rows (j : Int) ≠ 0) := by
          intro j hj
          by_cases hji : j = i
          · subst hji; rw [← HCc.out]; exact hc0
          · exact hN.out j (by omega)
        go_wp2_with fail
        go_roundw
        case rel => exact ⟨i + 1, by go_num, by omega, HN', trivial⟩
        case measure => simp [intOf]; omega
    · have hlt' : ¬ (i : Int) < (p : Int) := by omega
      obtain rfl : i = p := by omega
      go_wp2_with fail
      go_ret
      refine ⟨?_, rfl⟩
      unfold refFirst
      rw [List.find?_eq_none.2 (by intro j hj; have := hN.out j (List.mem_range.1 hj); simpa using this)]
      rfl
set_option maxRecDepth 100000 in
theorem free_R (h : RefAt W ρ Y p z rows) (ht : Tame rows) (hp : p ≤ 256) : Calls Try.prog 46 #[.pointer (some ⟨Y.r, 0, none⟩)] W fun e w' => e = .returned (.int .i64 (refFree rows p : Int)) ∧ W = w' := by
  obtain ⟨c0, c1, c2, -⟩ := h.cells
  have hp' : (p : Int) ≤ 256 := by omega
  have H := Lib.hid (And.intro h ht)
  clear h ht
  go_enter Try.func46, Try.ntmps46
  go_wp2_with fail
  go_loopw [3, 4] (fun vn vi wr => ∃ i : Nat, vi = .int .i64 i ∧ i ≤ p ∧ vn = .int .i64 (refFree rows i : Int) ∧ wr = W) (fun _ vi _ => p - (intOf vi).toNat)
  case atStart => exact ⟨0, rfl, Nat.zero_le _, rfl, rfl⟩
  case round =>
    obtain ⟨i, rfl, hi, rfl, rfl⟩ := hrel
    have i1 : (i : Int) ≤ 256 := by omega
    have i2 : (refFree rows i : Int) ≤ 256 := by have := refFree_le rows i; omega
    by_cases hlt : i < p
    · have hlt' : (i : Int) < (p : Int) := by omega
      have HC := Lib.hid (count_R H.out.1 (i : Int) H.out.2)
      obtain ⟨c, hc⟩ : ∃ c, c = refCount rows (i : Int) := ⟨_, rfl⟩
      have hs := refFree_succ rows i
      rw [← hc] at HC hs
      have HS := Lib.hid hs
      clear hc hs
      go_wp2_with fail
      with_reducible refine Calls.mono HC.out ?_
      rintro e w1 ⟨rfl, rfl⟩
      by_cases hc0 : c = 0
      · subst hc0
        go_wp2_with fail
        go_roundw
        case rel => exact ⟨i + 1, by go_num, by omega, by rw [HS.out]; go_num, trivial⟩
        case measure => simp [intOf]; omega
      · have hc0' : ¬ (c : Int) = 0 := by omega
        rw [if_neg hc0] at HS
        go_wp2_with fail
        go_roundw
        case rel => exact ⟨i + 1, by go_num, by omega, by rw [HS.out]; rfl, trivial⟩
        case measure => simp [intOf]; omega
    · have hlt' : ¬ (i : Int) < (p : Int) := by omega
      obtain rfl : i = p := by omega
      go_wp2_with fail
      go_ret
      exact ⟨rfl, rfl⟩
end
end Go.Proofs.Ytackjeckafoojaa.Kv
namespace Go.Proofs.Ytackjeckafoojaa.Kv
open Go.RowKit
attribute [local go_sem ↓] Kit.execOp_call_slot
attribute [local go_sem] Kit.callSlot_func
theorem own_unique {W : World} {base : Nat} {e : TypeId} {size : Nat} {v : Value} {n : Nat} {xs ys : List Value} (h : W.ownsRow base e size v n xs) (k : W.ownsRow base e size v n ys) : xs = ys := by
  rcases h.2 with ⟨-, h0⟩ | ⟨g, cap, cur, rfl, -, h2, -, -, -, h6⟩
  · have h1 := h.1
    have k1 := k.1
    rw [h0, Nat.zero_mul] at h1 k1
    rw [List.length_eq_zero_iff.1 h1, List.length_eq_zero_iff.1 k1]
  · rcases k.2 with ⟨e, -⟩ | ⟨g', cap', cur', e, -, k2, -, -, -, k6⟩
    · cases e
    · injection e with e1
      injection e1 with e1
      injection e1 with e1
      subst e1
      rw [h2] at k2
      injection k2 with k2
      injection k2 with k2
      subst k2
      rw [← h6, ← k6]
theorem infoRow : (Try.prog.info? 73).map (fun i => (i.zero, i.size, i.bytes)) = some (some (.agg #[.slice none 0 0, .slice none 0 0, .bool false]), 3, 56) := by kernel_rfl
theorem cell_three_new (w : World) (x y u : Value) (t : TypeId) : ∀ j v, [x, y, u][j]? = some v → (w.alloc (.cells #[x, y, u] t)).cell? ((⟨w.heap.size, 0, none⟩ : Addr).add j) = some v := by
  intro j v hj
  exact World.news_of_block (heap_alloc_new w _) j v (by simpa using hj)
section
variable {W : World} {ρ : Nat → Option RRole} {Y : RLay} {p z : Nat} {rows : List RRow}
/-- A row is put behind the others. -/
theorem RefAt.pushed (h : RefAt W ρ Y p z rows) {xs : List Value} (hx : W.ownsRow 0 73 3 Y.vr rows.length xs) {W1 wx w9 : World} {o : Obj} (hb : Below W.heap.size W W1) (h1 : wx.heap = W1.heap) (h2 : wx.os = W1.os) (h3 : wx.tape = W1.tape) (h4 : wx.output = W1.output)
    {v' L P : Value} {r : RRow} (hown : w9.ownsRow 0 73 3 v' (rows.length + 1) (xs ++ [L, P, .bool r.o])) (hg : (wx.alloc o).grownBy w9 Y.vr.ownBlock) (hv : v'.ownBlock = Y.vr.ownBlock ∨ v'.ownBlock = some (wx.alloc o).heap.size)
    (hl : W1.ownsRow W.heap.size 3 1 L r.l.length (r.l.map encI)) (hp : W1.ownsRow W.heap.size 3 1 P r.ps.length (ints r.ps)) (hne : ∀ b, L.ownBlock = some b → P.ownBlock ≠ some b) :
    RStep W ρ Y p z (rows ++ [r]) (w9.setCell ⟨Y.r, 0, none⟩ v') := by
  have hb1 := below_lit h1 h2 h3 h4 o
  have hs1 : W1.heap.size < (wx.alloc o).heap.size := by simp [h1]
  have hYr : Y.r < W.heap.size := h.lt _ (by rw [h.rbox]; simp)
  have hvr : ∀ b, Y.vr.ownBlock = some b → b < W.heap.size ∧ b ≠ Y.r := fun b hb' => ⟨own_lt' hx hb', by rintro rfl; have := h.rrows _ hb'; rw [h.rbox] at this; cases this⟩
  have hF : ∀ b, b < W1.heap.size → Y.vr.ownBlock ≠ some b → w9.heap[b]? = W1.heap[b]? := fun b hb' hne' => (hg.block b (Nat.lt_of_lt_of_le hb' hb1.size) (fun e => hne' e.symm)).trans (hb1.block b hb')
  have hS : ∀ b, b ≠ Y.r → (w9.setCell ⟨Y.r, 0, none⟩ v').heap[b]? = w9.heap[b]? := fun b hb' => Below.heap_setCell _ _ _ _ hb'
  have hlt : ∀ {e : TypeId} {v : Value} {n : Nat} {ys : List Value}, W1.ownsRow W.heap.size e 1 v n ys → (w9.setCell ⟨Y.r, 0, none⟩ v').ownsRow 0 e 1 v n ys := fun {e v n ys} hv' => by
    have h5 := own_same hv' (W' := w9.setCell ⟨Y.r, 0, none⟩ v') fun b hb' => by
      have := hv'.lt b hb'
      exact (hS b (by omega)).trans (hF b this.2 (fun e => by have := (hvr b e).1; omega))
    exact ⟨h5.1, h5.2.imp id fun ⟨g, cap, cur, e, h6, r⟩ => ⟨g, cap, cur, e, by omega, r⟩⟩
  have hvY : ∀ b, v'.ownBlock = some b → b ≠ Y.r := fun b hb' => by
    rcases hv with e | e
    · exact (hvr b (by rw [← e]; exact hb')).2
    · rw [e] at hb'; injection hb' with hb'
      have := hb.size
      omega
  refine h.push (v' := v') (L := L) (P := P) (hg.os.trans (hb1.os.trans hb.os)) (hg.tape.trans (hb1.tape.trans hb.tape)) (hg.output.trans (hb1.output.trans hb.output)) ?_ ?_ ?_ ?_ ?_ (hlt hl) (fun b hb' => (hl.lt b hb').1) (hlt hp) (fun b hb' => (hp.lt b hb').1) hne ?_ ?_
  · have := hb.size; have := hb1.size; have := hg.size; simp; omega
  · intro b hb' hr hY
    exact (hS b hY).trans ((hF b (Nat.lt_of_lt_of_le hb' hb.size) (fun e => hr (h.rrows b e))).trans (hb.block b hb'))
  · have e1 := (hF Y.r (Nat.lt_of_lt_of_le hYr hb.size) (fun e => (hvr _ e).2 rfl)).trans (hb.block Y.r hYr)
    exact heap_setCell_same w9 Y.r 0 _ _ v' (e1.trans h.box)
  · rcases hv with e | e
    · exact .inl e
    · exact .inr fun b hb' => by rw [e] at hb'; injection hb' with hb'; have := hb.size; omega
  · intro ys hy
    obtain rfl := own_unique hx hy
    exact own_same hown fun b hb' => hS b (hvY b hb')
  · intro b hb' e
    have h7 := hl.lt b hb'
    rcases hv with e1 | e1
    · have := (hvr b (by rw [← e1]; exact e)).1; omega
    · rw [e1] at e; injection e with e; omega
  · intro b hb' e
    have h7 := hp.lt b hb'
    rcases hv with e1 | e1
    · have := (hvr b (by rw [← e1]; exact e)).1; omega
    · rw [e1] at e; injection e with e; omega
set_option maxRecDepth 100000 in
theorem open_R (h : RefAt W ρ Y p z rows) (hn : rows.length ≤ 100) : Calls Try.prog 34 #[.pointer (some ⟨Y.r, 0, none⟩)] W fun e w' => e = .returned (.tuple #[.int .i64 (rows.length : Int), .int .i64 0]) ∧ RStep W ρ Y p z (rows ++ [⟨[], [], true⟩]) w' := by
  obtain ⟨i0, hi, hz0, hz1, hz2⟩ := info_parts infoRow
  have HI := Lib.hid (And.intro hi (And.intro hz0 (And.intro hz1 hz2)))
  obtain ⟨c0, c1, c2, f0⟩ := h.cells
  obtain ⟨A, cp, hv⟩ := h.form
  rw [hv] at c0
  have hn' : (rows.length : Int) ≤ 100 := by omega
  obtain ⟨xs, hx, -⟩ := h.xs
  have hR : Y.r < W.heap.size := h.lt _ (by rw [h.rbox]; simp)
  have hYv : ∀ b, Y.vr.ownBlock = some b → b ≠ Y.r := fun b hb => by rintro rfl; have := h.rrows _ hb; rw [h.rbox] at this; cases this
  have hx2 := hx
  rw [hv] at hx2
  have HX := Lib.hid (And.intro hx2 (And.intro hx (And.intro h (And.intro hv hYv))))
  clear hi hz0 hz1 hz2 hx hx2 h hv hYv
  go_enter Try.func34, Try.ntmps34
  go_wp2_with (at_builtin; refine wpList_append_own_at _ (by rfl) (.tmp 14) (.tmp 16) 32 (by rfl) 0 73 i0 _ 3 56 Try.underlying32 HI.out.1 HI.out.2.1 HI.out.2.2.1 HI.out.2.2.2 (by rfl) (by decide) _ rows.length _ (by rfl) (own_same HX.out.1 fun b hb => Below.heap_alloc _ _ _ (own_lt' HX.out.1 hb)) _ 1 1 [.slice none 0 0, .slice none 0 0, .bool true] (by rfl) (by rfl) (cell_three_new _ _ _ _ _) (by intro u hu; simp at hu; rcases hu with rfl | rfl <;> rfl) (by unfold maxLen; omega) (by omega) (by simp) ?_; intro v' w9 hownN hgrow _ hat; obtain ⟨A2, cp2, rfl⟩ := own_form hownN; have hgk := fun b hb hne => grown_keep (W := W) (by rfl) hgrow (b := b) hb hne; have hne : (Value.slice A rows.length cp).ownBlock ≠ some Y.r := (fun e => HX.out.2.2.2.2 _ (by rw [HX.out.2.2.2.1]; exact e) rfl); have c0 := (World.cell?_of_block (a := ⟨Y.r, 0, none⟩) (hgk Y.r hR hne)).trans c0; have f0 := (World.frozen?_of_block (a := ⟨Y.r, 0, none⟩) (hgk Y.r hR hne)).trans f0; have HO := Lib.hid (And.intro hownN (And.intro hgrow hat)); clear hownN hgrow hat hgk hne)
  go_ret2
  refine ⟨rfl, HX.out.2.2.1.pushed (W1 := W) (wx := W) (o := .cells #[.slice none 0 0, .slice none 0 0, .bool true] 73) (r := ⟨[], [], true⟩) HX.out.2.1 (Below.refl _ _) rfl rfl rfl rfl HO.out.1 ?_ ?_ (World.ownsRow_nil _ _ _ _) (World.ownsRow_nil _ _ _ _) (by intro b hb; simp [Value.ownBlock] at hb)⟩
  · rw [HX.out.2.2.2.1]; exact HO.out.2.1
  · rw [HX.out.2.2.2.1]; exact HO.out.2.2
end
end Go.Proofs.Ytackjeckafoojaa.Kv
namespace Go.Proofs.Ytackjeckafoojaa.Kv
open Go.RowKit
attribute [local go_sem ↓] Kit.execOp_call_slot
attribute [local go_sem] Kit.callSlot_func
section
variable {W : World} {ρ : Nat → Option RRole} {Y : RLay} {p z : Nat} {rows : List RRow}
theorem right_some {id : Int} (h : refRight rows id = true) : ∃ i r, id = (i : Nat) ∧ rows[i]? = some r ∧ r.o = true := by
  unfold refRight at h
  split at h
  · rename_i h0
    obtain ⟨i, rfl⟩ := Int.eq_ofNat_of_zero_le h0
    rw [Int.toNat_natCast] at h
    cases hr : rows[i]? with
    | none => rw [hr] at h; simp at h
    | some r => rw [hr] at h; exact ⟨i, r, rfl, hr, by simpa using h⟩
  · cases h
set_option maxRecDepth 100000 in
theorem close_R (h : RefAt W ρ Y p z rows) (hn : rows.length ≤ 100) {i : Nat} {r : RRow} (hr : rows[i]? = some r) (ho : r.o = true) : Calls Try.prog 37 #[.pointer (some ⟨Y.r, 0, none⟩), .int .i64 (i : Int)] W fun e w' => e = .returned (.int .i64 0) ∧ RStep W ρ Y p z (rows.set i ⟨[], [], false⟩) w' := by
  have hc := right_R h (i : Int) hn
  rw [show refRight rows (i : Int) = true by unfold refRight; rw [if_pos (by omega), Int.toNat_natCast, hr]; simpa using ho] at hc
  have HC := Lib.hid hc
  obtain ⟨c0, c1, c2, f0⟩ := h.cells
  obtain ⟨g, cap, hv, hgY, hg, x0, x1, x2, fr⟩ := h.row hr
  rw [hv] at c0
  have hi := (List.getElem?_eq_some_iff.1 hr).1
  have hi' : (i : Int) < (rows.length : Int) := by omega
  have h1 : ¬ (i : Int) < 0 := by omega
  have fr0 := fr (i * 3)
  have fr1 := fr (i * 3 + 1)
  have fr2 := fr (i * 3 + 2)
  have HX := Lib.hid (And.intro h (And.intro hr (And.intro hv (And.intro hgY hg))))
  clear h hr hv hgY hg fr hc ho hi
  go_enter Try.func37, Try.ntmps37
  go_wp2_with fail
  with_reducible refine Calls.mono HC.out ?_
  rintro e w1 ⟨rfl, rfl⟩
  go_wp2_with fail
  go_ret
  refine ⟨rfl, HX.out.1.remake HX.out.2.1 (L := .slice none 0 0) (P := .slice none 0 0) rfl rfl rfl (by simp) ?_ ?_ (World.ownsRow_nil _ _ _ _) (by intro b hb; simp [Value.ownBlock] at hb) (World.ownsRow_nil _ _ _ _) (by intro b hb; simp [Value.ownBlock] at hb) (by intro b hb; simp [Value.ownBlock] at hb)⟩
  · intro b hb hr _
    have hbg : b ≠ g := by rintro rfl; exact hr HX.out.2.2.2.2
    exact (Below.heap_setCell _ _ _ _ hbg).trans ((Below.heap_setCell _ _ _ _ hbg).trans (Below.heap_setCell _ _ _ _ hbg))
  · intro xs hx y0 y1 y2
    rw [HX.out.2.2.1] at hx ⊢
    have l0 := (List.getElem?_eq_some_iff.1 y0).1
    have l1 := (List.getElem?_eq_some_iff.1 y1).1
    have l2 := (List.getElem?_eq_some_iff.1 y2).1
    refine ⟨_, own_set (own_set (own_set hx (i * 3) _) (i * 3 + 1) _) (i * 3 + 2) _, ?_, ?_, ?_, ?_⟩
    · simp [List.getElem?_set, l0]
    · simp [List.getElem?_set, l1]
    · simp [List.getElem?_set, l2]
    · intro j hj
      rw [List.getElem?_set_ne (by omega), List.getElem?_set_ne (by omega), List.getElem?_set_ne (by omega)]
end
end Go.Proofs.Ytackjeckafoojaa.Kv
