/- A row's things, as an iterator. -/
import Derived.Test.YtackjeckafoojaaKvIH
import Derived.Test.YtackjeckafoojaaKvSeq
namespace Go.Proofs.Ytackjeckafoojaa.Kv
theorem thing_in {α : Type} {s : PSt α} (h : Inv s) (zero : α) {id : Nat} {ps : List Nat} {n k : Nat} (hr : s.row id = some (ps, n)) (hk : k < n) :
    ∃ p x, ps[k / s.size]? = some p ∧ p < s.pages.length ∧ (s.lst p)[k % s.size]? = some x ∧ s.get zero (id : Int) (k : Int) = (x, 0) := by
  have hsz := h.sz
  have hnb := h.n_bound hr
  have f1 := Nat.div_add_mod k s.size
  have f2 := Nat.mod_lt k (show 0 < s.size by omega)
  have hkp : k / s.size < ps.length := by
    rw [Nat.div_lt_iff_lt_mul (by omega)]
    omega
  have hfull := h.full _ _ _ hr _ hkp
  have hlt : k % s.size < (s.lst ps[k / s.size]).length := by
    have e : k / s.size * s.size = k - k % s.size := by rw [Nat.mul_comm]; omega
    rw [e] at hfull
    omega
  refine ⟨ps[k / s.size], (s.lst ps[k / s.size])[k % s.size], List.getElem?_eq_getElem hkp, h.lt _ _ _ hr _ (List.getElem_mem _), List.getElem?_eq_getElem hlt, ?_⟩
  unfold PSt.get
  rw [find_of_row hr]
  simp only [Int.toNat_natCast]
  rw [if_neg (by omega), getD_at _ _ hkp, List.getElem?_eq_getElem hlt]
  rfl
end Go.Proofs.Ytackjeckafoojaa.Kv
namespace Go.Proofs.Ytackjeckafoojaa.KvI
open Go.RowKit Kv
attribute [local go_sem ↓] Kit.execOp_call_slot
attribute [local go_sem] Kit.callSlot_func
variable {W : World} {ρ : Nat → Option Role} {L : Lay} {s : PSt Int}

theorem get_any (h : PoolAt K enc W ρ L s) (hi : Inv s) (id i : Int) : Calls Try.prog 22 #[.pointer (some ⟨L.g, 0, none⟩), .int .i64 id, .int .i64 i] W fun e w' =>
    e = .returned (.tuple #[.int .i64 (s.get 0 id i).1, .int .i64 (s.get 0 id i).2]) ∧ ∃ m, w' = W.drewN m := by
  cases hf : s.find id with
  | none =>
    have e1 : s.get 0 id i = (0, 14) := by unfold PSt.get; rw [hf]
    rw [e1]
    exact (get_none h i hf).mono fun e w' ⟨h1, h2⟩ => ⟨h1, 0, h2.symm⟩
  | some r =>
    obtain ⟨ps, n⟩ := r
    by_cases hr : i < 0 ∨ (n : Int) ≤ i
    · have e1 : s.get 0 id i = (0, 10) := by unfold PSt.get; rw [hf]; simp only; rw [if_pos hr]
      rw [e1]
      exact (get_out h i hf hr).mono fun e w' ⟨h1, h2⟩ => ⟨h1, 0, h2.symm⟩
    · obtain ⟨h0, hrow⟩ := find_row hf
      obtain ⟨j, rfl⟩ : ∃ k : Nat, id = (k : Int) := ⟨id.toNat, by omega⟩
      obtain ⟨k, rfl⟩ : ∃ k : Nat, i = (k : Int) := ⟨i.toNat, by omega⟩
      rw [Int.toNat_natCast] at hrow
      obtain ⟨p, x, hp, hpl, hx, hg⟩ := thing_in hi 0 hrow (k := k) (by omega)
      rw [hg]
      have hll := hi.lim p
      have hsz := hi.sz
      exact get_in h k hf (by omega) (hi.n_bound hrow).2.2 hi.sz p hp hpl x hx (by omega) (by have := hi.ps_len hrow; omega) hi.np.2

/-- slices.Values. -/
theorem values_run (W : World) (A : Option Addr) (n c : Nat) : Calls Try.prog 55 #[.slice A n c] W fun e w' => e = .returned (.func (.func 60) #[] #[.pointer (some ⟨W.heap.size, 0, none⟩)]) ∧ w' = W.alloc (.cells #[.slice A n c] 42) := by
  go_enter Try.func55, Try.ntmps55
  go_wp2_with fail
  go_ret
  exact ⟨rfl, rfl⟩

/-- What All hands back: an iterator over these ints. -/
structure SeqI (W : World) (q : Nat) (l : List Int) (W' : World) : Prop where
  ge : W.heap.size ≤ q
  ex : ∃ v, Boxed W' q 42 v ∧ W'.ownsRow W.heap.size 3 1 v l.length (l.map encI)
  below : Below W.heap.size W W'
def SeqPost (W : World) (l : List Int) (e : Ending) (W' : World) : Prop := ∃ q, e = .returned (.func (.func 60) #[] #[.pointer (some ⟨q, 0, none⟩)]) ∧ SeqI W q l W'

set_option maxRecDepth 100000 in
set_option maxHeartbeats 1000000 in
/-- All, where Get tells what the things are. -/
theorem all_run (g : Value) (id : Int) (l : List Int) (err : Int) (herr : err ≠ 0) (hl : l.length ≤ 20000)
    (hget : ∀ (k : Nat) W', Below W.heap.size W W' → k ≤ l.length → Calls Try.prog 22 #[g, .int .i64 id, .int .i64 (k : Int)] W' fun e w' => e = .returned (.tuple #[.int .i64 (l[k]?.getD 0), .int .i64 (if k < l.length then 0 else err)]) ∧ ∃ m, w' = W'.drewN m) :
    Calls Try.prog 43 #[g, .int .i64 id] W (SeqPost W l) := by
  obtain ⟨i0, hi, hz0, hz1, hz2⟩ := info_parts infoE
  have HI := Lib.hid (And.intro hi (And.intro hz0 (And.intro hz1 hz2)))
  have HG := Lib.hid hget
  clear hi hz0 hz1 hz2 hget
  go_enter Try.func43, Try.ntmps43
  go_wp2_with fail
  go_loopw [5, 6] (fun o i wr => ∃ k : Nat, k ≤ l.length ∧ i = .int .i64 k ∧ Hid (wr.ownsRow W.heap.size 3 1 o k ((l.take k).map encI)) ∧ Hid (Below W.heap.size W wr))
    (fun _ i _ => l.length + 1 - (intOf i).toNat)
  case atStart => exact ⟨0, Nat.zero_le _, rfl, Lib.hid (World.ownsRow_nil _ _ _ _), Lib.hid (Below.refl _ _)⟩
  case round =>
    obtain ⟨k, hk, rfl, hown, hB⟩ := hrel
    obtain ⟨A, cp, rfl⟩ := own_form hown.out
    have hc := HG.out k wr hB.out hk
    by_cases hlt : k < l.length
    · obtain ⟨x, hx⟩ : ∃ x, x = l[k] := ⟨_, rfl⟩
      rw [List.getElem?_eq_getElem hlt, Option.getD_some, if_pos hlt, ← hx] at hc
      have HC := Lib.hid hc
      have HX : Hid (l.take (k + 1) = l.take k ++ [x]) := by
        show l.take (k + 1) = l.take k ++ [x]
        rw [hx]; exact List.take_succ_eq_append_getElem hlt
      clear hc hx
      go_wp2_with fail
      with_reducible refine Calls.mono HC.out ?_
      rintro e w1 ⟨rfl, m, rfl⟩
      go_wp2_with (at_builtin; refine wpList_append_own_at _ (by rfl) (.tmp 22) (.tmp 24) 42 (by rfl) W.heap.size 3 i0 _ 1 8 Try.underlying42 HI.out.1 HI.out.2.1 HI.out.2.2.1 HI.out.2.2.2 (by rfl) (by decide) _ k _ (by rfl) (by exact own_lit (W := wr) rfl _ hown.out) _ 1 1 [.int .i64 x] (by rfl) (by rfl) (cell_one_new _ _ _) (by intro u hu; rw [List.mem_singleton] at hu; subst hu; exact enc_one _) (by unfold maxLen; omega) (by omega) (by have := hB.out.size; simp; omega) ?_; intro v' w9 hownN hgrow _ hat; obtain ⟨A', cp', rfl⟩ := own_form hownN; have HO := Lib.hid (And.intro hownN hgrow); clear hownN hgrow hat)
      go_roundw
      case rel =>
        refine ⟨k + 1, by omega, by go_num, Lib.hid ?_, Lib.hid ?_⟩
        · rw [HX.out, List.map_append]; exact HO.out.1
        · have hb1 : Below W.heap.size W ((wr.drewN m).alloc (.cells #[.int .i64 x] 3)) := by
            have h1 : Below W.heap.size W (wr.drewN m) := ⟨hB.out.os, hB.out.tape, hB.out.output, hB.out.size, hB.out.block⟩
            exact h1.alloc h1.size _
          exact hb1.grown HO.out.2 hb1.size (fun b e => (hown.out.lt b e).1)
      case measure => simp [intOf]; omega
    · obtain rfl : k = l.length := by omega
      rw [if_neg hlt] at hc
      have HC := Lib.hid hc
      clear hc
      go_wp2_with fail
      with_reducible refine Calls.mono HC.out ?_
      rintro e w1 ⟨rfl, m, rfl⟩
      have herr0 : (err != 0) = true := by simpa using herr
      go_wp2_with fail
      with_reducible refine Calls.mono (values_run _ _ _ _) ?_
      rintro e w2 ⟨rfl, rfl⟩
      go_wp2_with fail
      try (rw [Exit.noGoto_ret])
      go_ret
      refine ⟨_, rfl, ?_⟩
      have h1 : Below W.heap.size W (wr.drewN m) := ⟨hB.out.os, hB.out.tape, hB.out.output, hB.out.size, hB.out.block⟩
      refine ⟨hB.out.size, ⟨_, heap_alloc_new (wr.drewN m) _, ?_⟩, h1.alloc h1.size _⟩
      rw [List.take_length] at hown
      exact own_lit (W := wr) rfl _ hown.out
theorem all_any (h : PoolAt K enc W ρ L s) (hi : Inv s) (id : Int) : Calls Try.prog 43 #[.pointer (some ⟨L.g, 0, none⟩), .int .i64 id] W (SeqPost W (s.all 0 id)) := by
  refine all_run _ id (s.all 0 id) (match s.find id with | none => 14 | some _ => 10) (by cases s.find id <;> simp) ?_ ?_
  · unfold PSt.all
    cases hf : s.find id with
    | none => simp
    | some r =>
      obtain ⟨ps, n⟩ := r
      have := (hi.n_bound (find_row hf).2).2.2
      simp
      omega
  · intro k W' hb hk
    refine (get_any (h.below hb) hi id k).mono ?_
    rintro e w' ⟨rfl, hm⟩
    refine ⟨?_, hm⟩
    cases hf : s.find id with
    | none =>
      have e1 : s.get 0 id k = (0, 14) := by unfold PSt.get; rw [hf]
      have e2 : s.all 0 id = [] := by unfold PSt.all; rw [hf]
      rw [e1, e2]
      rfl
    | some r =>
      obtain ⟨ps, n⟩ := r
      have e2 : s.all 0 id = (List.range n).map fun i : Nat => (s.get 0 id (i : Int)).1 := by unfold PSt.all; rw [hf]
      rw [e2] at hk ⊢
      rw [List.length_map, List.length_range] at hk ⊢
      by_cases hlt : k < n
      · obtain ⟨h0, hrow⟩ := find_row hf
        obtain ⟨j, rfl⟩ : ∃ k : Nat, id = (k : Int) := ⟨id.toNat, by omega⟩
        rw [Int.toNat_natCast] at hrow
        obtain ⟨p, x, -, -, -, hg⟩ := thing_in hi 0 hrow (k := k) hlt
        rw [if_pos hlt, List.getElem?_map, List.getElem?_range hlt]
        simp [hg]
      · have e1 : s.get 0 id k = (0, 10) := by
          unfold PSt.get
          rw [hf]
          simp only
          rw [if_pos (by omega)]
        rw [if_neg hlt, e1, List.getElem?_eq_none (by simp; omega)]
        rfl
end Go.Proofs.Ytackjeckafoojaa.KvI
