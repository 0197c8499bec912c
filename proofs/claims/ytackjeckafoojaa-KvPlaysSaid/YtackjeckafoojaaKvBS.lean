/- A pool of things of type byte: a row that shares another one's things. -/
import Derived.Test.YtackjeckafoojaaKvBR
import Derived.Test.YtackjeckafoojaaKvBN
namespace Go.Proofs.Ytackjeckafoojaa.KvB
open Go.RowKit Kv
attribute [local go_sem ↓] Kit.execOp_call_slot
attribute [local go_sem] Kit.callSlot_func
variable {W : World} {ρ : Nat → Option Role} {L : Lay} {s : PSt Int}

theorem share_none (h : PoolAt K enc W ρ L s) {id : Int} (n : Int) (hf : s.find id = none) : Calls Try.prog 31 #[.pointer (some ⟨L.g, 0, none⟩), .int .i64 id, .int .i64 n] W fun e w' => e = .returned (.tuple #[.int .i64 0, .int .i64 14]) ∧ W = w' := by
  have hc := find_any h id
  rw [hf] at hc
  simp only [Option.isSome_none, Bool.false_eq_true, if_false] at hc
  have HC := Lib.hid hc
  clear hc h hf
  go_enter Try.func31, Try.ntmps31
  go_wp2_with fail
  with_reducible refine Calls.mono HC.out ?_
  rintro e w1 ⟨rfl, rfl⟩
  go_wp2_with fail
  go_ret2
  exact ⟨rfl, rfl⟩
theorem share_out (h : PoolAt K enc W ρ L s) {id : Int} {ps : List Nat} {n0 : Nat} (n : Int) (hf : s.find id = some (ps, n0)) (hn : n < 0 ∨ (n0 : Int) < n) : Calls Try.prog 31 #[.pointer (some ⟨L.g, 0, none⟩), .int .i64 id, .int .i64 n] W fun e w' => e = .returned (.tuple #[.int .i64 0, .int .i64 10]) ∧ W = w' := by
  have hc := find_any h id
  rw [hf] at hc
  simp only [Option.isSome_some, if_true] at hc
  obtain ⟨r0, r1⟩ := h.rowCell (find_row hf).2
  have HC := Lib.hid hc
  clear hc h hf r0
  by_cases h0 : n < 0
  · clear hn
    go_enter Try.func31, Try.ntmps31
    go_wp2_with fail
    with_reducible refine Calls.mono HC.out ?_
    rintro e w1 ⟨rfl, rfl⟩
    go_wp2_with fail
    go_ret2
    exact ⟨rfl, rfl⟩
  · have h1 : (n0 : Int) < n := by omega
    clear hn
    go_enter Try.func31, Try.ntmps31
    go_wp2_with fail
    with_reducible refine Calls.mono HC.out ?_
    rintro e w1 ⟨rfl, rfl⟩
    go_wp2_with fail
    go_ret2
    exact ⟨rfl, rfl⟩

/-- 'open' of the row that Share makes. -/
theorem share_open {w2 : World} (h : PoolAt K enc W ρ L s) {id : Nat} {ps : List Nat} {n0 : Nat} (hr : s.row id = some (ps, n0)) {g cap : Nat} (hg : L.pv id = .slice (some ⟨g, 0, none⟩) ps.length cap) (hb : Below W.heap.size W w2) (v : Value) (qs : List Nat) (n : Nat) (hown : w2.ownsRow W.heap.size 3 1 v qs.length (ints qs))
    (hps : ∀ p ∈ qs, p < s.pages.length) (hpl : qs.length ≤ 1000) (hcnt : ∀ i, 0 ≤ s.cnt i ∧ s.cnt i ≤ 100000) (hnp : s.pages.length ≤ 256) (hm1 : s.rows.length ≤ 1024) :
    Calls Try.prog 50 #[.pointer (some ⟨L.g, 0, none⟩), .pointer (some ⟨w2.heap.size, 0, none⟩)] (w2.alloc (.cells #[v, .int .i64 (n : Int)] 78)) fun e w' =>
      e = .returned (.tuple #[.int .i64 (s.open_ qs n).2.1, .int .i64 (s.open_ qs n).2.2]) ∧ Step K enc W ρ L (s.open_ qs n).1 w' ∧ w'.cell? ⟨L.rb id, 0, none⟩ = some (.slice (some ⟨g, 0, none⟩) ps.length cap) ∧ w'.cell? ⟨L.g, 1, none⟩ = some (.int .i64 s.size) := by
  have hb3 := hb.alloc hb.size (.cells #[v, .int .i64 (n : Int)] 78)
  by_cases hm : s.rows.length = 1024
  · refine (open_full (h.below hb3) w2.heap.size hm).mono ?_
    rintro e w' ⟨rfl, rfl⟩
    unfold PSt.open_
    rw [if_pos hm]
    refine ⟨rfl, Step.below h hb3, ?_, (h.below hb3).cells.2.1⟩
    rw [← hg]
    exact ((h.below hb3).rowCell hr).1
  · have hown0 : (w2.alloc (.cells #[v, .int .i64 (n : Int)] 78)).ownsRow 0 3 1 v qs.length (ints qs) := own_same (own_zero hown) fun b hb => Below.heap_alloc _ _ _ (own_lt' hown hb)
    refine (open_some (h.clip.below hb3) w2.heap.size v qs n (by exact heap_alloc_new _ _) hown0 (clip_ge hb.size) (fun g hg => ⟨clip_ge (hown.lt g hg).1, by have := (hown.lt g hg).2; omega⟩) hps hpl hcnt hnp (by omega)).mono ?_
    rintro e w' ⟨rfl, ρ', L', hO⟩
    have hlt := row_lt hr
    have hl := incAll_len s qs
    have hr' : ({ incAll s qs with rows := s.rows ++ [some (qs, n)] } : PSt Int).row id = some (ps, n0) := by
      rw [← hr]
      unfold PSt.row
      simp only
      rw [List.getElem?_append_left hlt]
    have hc := hO.pool.cells.2.1
    have hc2 := (hO.pool.rowCell hr').1
    rw [hO.g] at hc
    rw [hO.rb id (by omega), hO.pv id (by omega), hg] at hc2
    unfold PSt.open_
    rw [if_neg hm]
    refine ⟨rfl, hO.step hb3 hb.size (fun g hg => (hown.lt g hg).1), hc2, ?_⟩
    rw [← hl.2.1]
    exact hc

theorem share_open_nil {w2 : World} (h : PoolAt K enc W ρ L s) {id : Nat} {ps : List Nat} {n0 : Nat} (hr : s.row id = some (ps, n0)) (hg : L.pv id = .slice none 0 0) (hb : Below W.heap.size W w2) (v : Value) (qs : List Nat) (n : Nat) (hown : w2.ownsRow W.heap.size 3 1 v qs.length (ints qs))
    (hps : ∀ p ∈ qs, p < s.pages.length) (hpl : qs.length ≤ 1000) (hcnt : ∀ i, 0 ≤ s.cnt i ∧ s.cnt i ≤ 100000) (hnp : s.pages.length ≤ 256) (hm1 : s.rows.length ≤ 1024) :
    Calls Try.prog 50 #[.pointer (some ⟨L.g, 0, none⟩), .pointer (some ⟨w2.heap.size, 0, none⟩)] (w2.alloc (.cells #[v, .int .i64 (n : Int)] 78)) fun e w' =>
      e = .returned (.tuple #[.int .i64 (s.open_ qs n).2.1, .int .i64 (s.open_ qs n).2.2]) ∧ Step K enc W ρ L (s.open_ qs n).1 w' ∧ w'.cell? ⟨L.rb id, 0, none⟩ = some (.slice none 0 0) ∧ w'.cell? ⟨L.g, 1, none⟩ = some (.int .i64 s.size) := by
  have hb3 := hb.alloc hb.size (.cells #[v, .int .i64 (n : Int)] 78)
  by_cases hm : s.rows.length = 1024
  · refine (open_full (h.below hb3) w2.heap.size hm).mono ?_
    rintro e w' ⟨rfl, rfl⟩
    unfold PSt.open_
    rw [if_pos hm]
    refine ⟨rfl, Step.below h hb3, ?_, (h.below hb3).cells.2.1⟩
    rw [← hg]
    exact ((h.below hb3).rowCell hr).1
  · have hown0 : (w2.alloc (.cells #[v, .int .i64 (n : Int)] 78)).ownsRow 0 3 1 v qs.length (ints qs) := own_same (own_zero hown) fun b hb => Below.heap_alloc _ _ _ (own_lt' hown hb)
    refine (open_some (h.clip.below hb3) w2.heap.size v qs n (by exact heap_alloc_new _ _) hown0 (clip_ge hb.size) (fun g hg => ⟨clip_ge (hown.lt g hg).1, by have := (hown.lt g hg).2; omega⟩) hps hpl hcnt hnp (by omega)).mono ?_
    rintro e w' ⟨rfl, ρ', L', hO⟩
    have hlt := row_lt hr
    have hl := incAll_len s qs
    have hr' : ({ incAll s qs with rows := s.rows ++ [some (qs, n)] } : PSt Int).row id = some (ps, n0) := by
      rw [← hr]
      unfold PSt.row
      simp only
      rw [List.getElem?_append_left hlt]
    have hc := hO.pool.cells.2.1
    have hc2 := (hO.pool.rowCell hr').1
    rw [hO.g] at hc
    rw [hO.rb id (by omega), hO.pv id (by omega), hg] at hc2
    unfold PSt.open_
    rw [if_neg hm]
    refine ⟨rfl, hO.step hb3 hb.size (fun g hg => (hown.lt g hg).1), hc2, ?_⟩
    rw [← hl.2.1]
    exact hc

set_option maxRecDepth 100000 in
set_option maxHeartbeats 2000000 in
theorem share_in (h : PoolAt K enc W ρ L s) {id : Int} {ps : List Nat} {n0 : Nat} (n : Nat) (hf : s.find id = some (ps, n0)) (hn : n ≤ n0) (m : Nat) (hm : m = (n + s.size - 1) / s.size) (hmp : m ≤ ps.length) (hn0 : n0 ≤ 16384) (hsz : 1 ≤ s.size ∧ s.size ≤ 64)
    (hps : ∀ p ∈ ps, p < s.pages.length) (hpl : ps.length ≤ 1000) (hcnt : ∀ i, 0 ≤ s.cnt i ∧ s.cnt i ≤ 100000) (hnp : s.pages.length ≤ 256) (hm1 : s.rows.length ≤ 1024) {g cap : Nat} (hg : L.pv id.toNat = .slice (some ⟨g, 0, none⟩) ps.length cap) (hcap : ps.length ≤ cap) :
    Calls Try.prog 31 #[.pointer (some ⟨L.g, 0, none⟩), .int .i64 id, .int .i64 (n : Int)] W fun e w' =>
      e = .returned (.tuple #[.int .i64 (s.open_ (ps.take m) n).2.1, .int .i64 (s.open_ (ps.take m) n).2.2]) ∧ Step K enc W ρ L (s.open_ (ps.take m) n).1 w' := by
  have hlm : (ps.take m).length = m := by rw [List.length_take]; omega
  have hqs : ∀ p ∈ ps.take m, p < s.pages.length := fun p hp => hps p (List.mem_of_mem_take hp)
  have hop := fun (w2 : World) (hb : Below W.heap.size W w2) (v : Value) (hown : w2.ownsRow W.heap.size 3 1 v (ps.take m).length (ints (ps.take m))) => share_open h (find_row hf).2 hg hb v (ps.take m) n hown hqs (by rw [hlm]; omega) hcnt hnp hm1
  rw [hlm] at hop
  have HOP := Lib.hid hop
  clear hop hqs hlm
  have hc := find_any h id
  rw [hf] at hc
  simp only [Option.isSome_some, if_true] at hc
  obtain ⟨c0, c1, c2, c3⟩ := h.cells
  obtain ⟨r0, r1⟩ := h.rowCell (find_row hf).2
  have hrow := (h.row _ _ _ (find_row hf).2).2
  rw [hg] at r0
  have hx : ∀ j x, (ints (ps.take m))[j]? = some x → W.cell? ⟨g, j, none⟩ = some x := by
    intro j x hx
    have hjm : j < m := by
      have := (List.getElem?_eq_some_iff.1 hx).1
      simp [ints] at this
      omega
    have h2 : (ints ps)[j]? = some x := by
      rw [← hx]
      simp only [ints, List.getElem?_map, List.getElem?_take, if_pos hjm]
    have := hrow.cells (g := g) (by rw [hg]; rfl) j x h2
    rw [← this]
    congr 1
    unfold Addr.add
    split <;> simp_all
  have HX := Lib.hid hx
  have hid := row_lt (find_row hf).2
  have q1 : Int.tdiv ((n : Int) + (s.size : Int) - 1) (s.size : Int) = (m : Int) := by
    rw [show (n : Int) + (s.size : Int) - 1 = ((n + s.size - 1 : Nat) : Int) by omega, hm]
    rfl
  have hz : (s.size : Int) ≠ 0 := by omega
  have hz0 : ((s.size : Int) == 0) = false := by simp; omega
  have z1 : ¬ (n : Int) < 0 := by omega
  have z2 : ¬ (n0 : Int) < (n : Int) := by omega
  have z3 : (n : Int) ≤ (n0 : Int) := by omega
  have z4 : (0 : Int) ≤ (n : Int) := by omega
  have z5 : (0 : Int) ≤ (m : Int) := by omega
  have z6 : (m : Int) ≤ (cap : Int) := by omega
  have z7 : (n : Int) ≤ 16384 := by omega
  have z8 : (s.size : Int) ≤ 64 := by omega
  have z9 : (1 : Int) ≤ (s.size : Int) := by omega
  have y1 : IntKind.i64.wrap ((n : Int) + (s.size : Int)) = (n : Int) + (s.size : Int) := by rw [IntKind.wrap_i64]; omega
  have y2 : IntKind.i64.wrap ((n : Int) + (s.size : Int) - 1) = (n : Int) + (s.size : Int) - 1 := by rw [IntKind.wrap_i64]; omega
  have y3 : IntKind.i64.wrap (m : Int) = (m : Int) := by rw [IntKind.wrap_i64]; omega
  have hz1 : ¬ s.size = 0 := by omega
  have hq : ∀ w : World, (binOp .quo 3 (.int .i64 ((n : Int) + (s.size : Int) - 1)) (.int .i64 (s.size : Int))).run Try.prog w = .ok (.int .i64 (m : Int)) w := by
    intro w
    have := Try.underlying3
    simp [go_sem, this, hz0, hz, hz1, q1, y3]
  have HC := Lib.hid (And.intro hc h)
  have HQ := Lib.hid (And.intro hps hcnt)
  have HI := Lib.hid hid
  have hrb : L.rb id.toNat < W.heap.size := block_lt_of_cell r0
  have hgb : L.g < W.heap.size := block_lt_of_cell c1
  clear hc h hf c0 c2 c3 hrow hg hx hps hcnt hsz hm hid
  go_enter Try.func31, Try.ntmps31
  go_wp2_with fail
  with_reducible refine Calls.mono HC.out.1 ?_
  rintro e w1 ⟨rfl, rfl⟩
  go_wp2_with fail
  go_region_held3 (fun w' => w'.cell? ⟨L.rb id.toNat, 0, none⟩ = some (.slice (some ⟨g, 0, none⟩) ps.length cap) ∧ w'.cell? ⟨L.g, 1, none⟩ = some (.int .i64 s.size)) (first | exact ⟨r0, c1⟩ | assumption | go_keep)
    (first | ((go_at_call 44; refine Calls.mono (KvI.clone_some _ g m cap (ints (ps.take m)) (by simp [ints]; omega) HX.out (by intro u hu; obtain ⟨x, _, rfl⟩ := List.mem_map.1 hu; exact KvI.enc_one _) (by omega)) ?_; rintro e w2 ⟨v', rfl, hcl⟩; obtain ⟨A', cp', rfl⟩ := own_form hcl.own; have HCL := Lib.hid hcl; have r0 := (hcl.below.cell (p := ⟨L.rb id.toNat, 0, none⟩) hrb).trans r0; have c1 := (hcl.below.cell (p := ⟨L.g, 1, none⟩) hgb).trans c1; clear hcl))
           | ((go_at_call 50; refine Calls.mono (HOP.out _ (below_undrew HCL.out.below) _ HCL.out.own) ?_; rintro e w3 ⟨rfl, hst, r0, c1⟩; have HST := Lib.hid hst; clear hst)))
  go_wp2_with fail
  go_ret2
  exact ⟨rfl, HST.out⟩

set_option maxRecDepth 100000 in
set_option maxHeartbeats 2000000 in
theorem share_nil (h : PoolAt K enc W ρ L s) {id : Int} {ps : List Nat} {n0 : Nat} (n : Nat) (hf : s.find id = some (ps, n0)) (hn : n ≤ n0) (m : Nat) (hm : m = (n + s.size - 1) / s.size) (hmp : m ≤ ps.length) (hn0 : n0 ≤ 16384) (hsz : 1 ≤ s.size ∧ s.size ≤ 64)
    (hps : ∀ p ∈ ps, p < s.pages.length) (hpl : ps.length ≤ 1000) (hcnt : ∀ i, 0 ≤ s.cnt i ∧ s.cnt i ≤ 100000) (hnp : s.pages.length ≤ 256) (hm1 : s.rows.length ≤ 1024) (hg : L.pv id.toNat = .slice none 0 0) (hp0 : ps = []) (hm0 : m = 0) :
    Calls Try.prog 31 #[.pointer (some ⟨L.g, 0, none⟩), .int .i64 id, .int .i64 (n : Int)] W fun e w' =>
      e = .returned (.tuple #[.int .i64 (s.open_ (ps.take m) n).2.1, .int .i64 (s.open_ (ps.take m) n).2.2]) ∧ Step K enc W ρ L (s.open_ (ps.take m) n).1 w' := by
  have hlm : (ps.take m).length = m := by rw [List.length_take]; omega
  have hqs : ∀ p ∈ ps.take m, p < s.pages.length := fun p hp => hps p (List.mem_of_mem_take hp)
  have hop := fun (w2 : World) (hb : Below W.heap.size W w2) (v : Value) (hown : w2.ownsRow W.heap.size 3 1 v (ps.take m).length (ints (ps.take m))) => share_open_nil h (find_row hf).2 hg hb v (ps.take m) n hown hqs (by rw [hlm]; omega) hcnt hnp hm1
  rw [hlm] at hop
  have HOP := Lib.hid hop
  clear hop hqs hlm
  have hc := find_any h id
  rw [hf] at hc
  simp only [Option.isSome_some, if_true] at hc
  obtain ⟨c0, c1, c2, c3⟩ := h.cells
  obtain ⟨r0, r1⟩ := h.rowCell (find_row hf).2
  have hrow := (h.row _ _ _ (find_row hf).2).2
  rw [hg] at r0
  have hid := row_lt (find_row hf).2
  have q1 : Int.tdiv ((n : Int) + (s.size : Int) - 1) (s.size : Int) = (m : Int) := by
    rw [show (n : Int) + (s.size : Int) - 1 = ((n + s.size - 1 : Nat) : Int) by omega, hm]
    rfl
  have hz : (s.size : Int) ≠ 0 := by omega
  have hz0 : ((s.size : Int) == 0) = false := by simp; omega
  have z1 : ¬ (n : Int) < 0 := by omega
  have z2 : ¬ (n0 : Int) < (n : Int) := by omega
  have z3 : (n : Int) ≤ (n0 : Int) := by omega
  have z4 : (0 : Int) ≤ (n : Int) := by omega
  have z5 : (0 : Int) ≤ (m : Int) := by omega
  have z6 : (m : Int) ≤ (0 : Int) := by omega
  have z7 : (n : Int) ≤ 16384 := by omega
  have z8 : (s.size : Int) ≤ 64 := by omega
  have z9 : (1 : Int) ≤ (s.size : Int) := by omega
  have y1 : IntKind.i64.wrap ((n : Int) + (s.size : Int)) = (n : Int) + (s.size : Int) := by rw [IntKind.wrap_i64]; omega
  have y2 : IntKind.i64.wrap ((n : Int) + (s.size : Int) - 1) = (n : Int) + (s.size : Int) - 1 := by rw [IntKind.wrap_i64]; omega
  have y3 : IntKind.i64.wrap (m : Int) = (m : Int) := by rw [IntKind.wrap_i64]; omega
  have hz1 : ¬ s.size = 0 := by omega
  have hq : ∀ w : World, (binOp .quo 3 (.int .i64 ((n : Int) + (s.size : Int) - 1)) (.int .i64 (s.size : Int))).run Try.prog w = .ok (.int .i64 (m : Int)) w := by
    intro w
    have := Try.underlying3
    simp [go_sem, this, hz0, hz, hz1, q1, y3]
  subst hm0
  have e0 : ((0 : Nat) : Int) = 0 := rfl
  simp only [e0] at q1 hq y3 z5 z6
  have HC := Lib.hid (And.intro hc h)
  have HQ := Lib.hid (And.intro hps hcnt)
  have HI := Lib.hid hid
  have hrb : L.rb id.toNat < W.heap.size := block_lt_of_cell r0
  have hgb : L.g < W.heap.size := block_lt_of_cell c1
  clear hc h hf c0 c2 c3 hrow hg hps hcnt hsz hm hid
  go_enter Try.func31, Try.ntmps31
  go_wp2_with fail
  with_reducible refine Calls.mono HC.out.1 ?_
  rintro e w1 ⟨rfl, rfl⟩
  go_wp2_with fail
  go_region_held3 (fun w' => w'.cell? ⟨L.rb id.toNat, 0, none⟩ = some (.slice none 0 0) ∧ w'.cell? ⟨L.g, 1, none⟩ = some (.int .i64 s.size)) (first | exact ⟨r0, c1⟩ | assumption | go_keep)
    (first | ((go_at_call 44; refine Calls.mono (KvI.clone_nil _) ?_; rintro e w2 ⟨rfl, rfl⟩))
           | ((go_at_call 50; refine Calls.mono (HOP.out _ (below_undrew (Below.refl _ _)) _ (World.ownsRow_nil _ _ _ _)) ?_; rintro e w3 ⟨rfl, hst, r0, c1⟩; have HST := Lib.hid hst; clear hst)))
  go_wp2_with fail
  go_ret2
  exact ⟨rfl, HST.out⟩
end Go.Proofs.Ytackjeckafoojaa.KvB
