/- The reference's calls, told by the pool's. -/
import Derived.Test.YtackjeckafoojaaKvPd
import Derived.Test.YtackjeckafoojaaKvPf
import Derived.Test.YtackjeckafoojaaKvAp2
set_option linter.unusedVariables false
set_option linter.unusedSimpArgs false
namespace Go.Proofs.Ytackjeckafoojaa.Kv
open Go.RowKit
theorem tame_of {s : PSt Int} {p z : Nat} (h : Small s p z 60) (hp : p ≤ 12) (hz : z ≤ 8) : Tame s.rowsOf := by
  refine ⟨by rw [rowsOf_length]; have := h.rows; omega, fun r hr => ?_⟩
  obtain ⟨i, -, rfl⟩ := List.mem_map.1 hr
  have h1 := all_le h hp hz i
  cases hi : s.row i with
  | none => rw [rowOf_none hi]; simp
  | some x =>
    obtain ⟨ps, n⟩ := x
    rw [rowOf_some hi]
    have := nodup_le (h.inv.nd _ _ _ hi) (h.inv.lt _ _ _ hi)
    have := h.np
    exact ⟨by show ps.length ≤ 256; omega, by show (s.all 0 (i : Int)).length ≤ 1000; omega⟩
theorem refRight_of (s : PSt Int) (id : Int) : refRight s.rowsOf id = (s.find id).isSome := by
  unfold refRight PSt.find
  split
  · rename_i h0
    obtain ⟨i, rfl⟩ := Int.eq_ofNat_of_zero_le h0
    rw [Int.toNat_natCast]
    rcases Nat.lt_or_ge i s.rows.length with hlt | hge
    · rw [rowsOf_get s hlt]
      cases hi : s.row i with
      | none => rw [rowOf_none hi]; rfl
      | some x => obtain ⟨ps, n⟩ := x; rw [rowOf_some hi]; rfl
    · rw [List.getElem?_eq_none (by rw [rowsOf_length]; exact hge)]
      unfold PSt.row
      rw [List.getElem?_eq_none hge]
      rfl
  · rfl
theorem refFirst_of {s : PSt Int} {p z m : Nat} (h : Small s p z m) : refFirst s.rowsOf p = match s.first with | some a => (a : Int) | none => -1 := by
  have e : (List.range p).find? (fun i : Nat => refCount s.rowsOf (i : Int) == 0) = s.first := by
    unfold PSt.first
    rw [h.np]
    have hc : ∀ i ∈ List.range p, (refCount s.rowsOf (i : Int) == 0) = (s.cnt i == 0) := fun i hi => by
      have h1 := refCount_of h.inv i (by rw [h.np]; exact List.mem_range.1 hi)
      rw [← h1]
      by_cases h0 : refCount s.rowsOf (i : Int) = 0
      · rw [h0]; rfl
      · have h2 : ¬ ((refCount s.rowsOf (i : Int) : Nat) : Int) = 0 := by omega
        rw [beq_eq_false_iff_ne.2 h0, beq_eq_false_iff_ne.2 h2]
    generalize hl : List.range p = l at hc
    clear hl
    induction l with
    | nil => rfl
    | cons a l ih => rw [List.find?_cons, List.find?_cons, hc a (List.mem_cons_self ..), ih fun i hi => hc i (List.mem_cons_of_mem _ hi)]
  unfold refFirst
  rw [e]
  cases s.first <;> rfl
theorem refFree_of {s : PSt Int} {p z m : Nat} (h : Small s p z m) : refFree s.rowsOf p = s.free := by
  unfold refFree PSt.free
  rw [h.np]
  congr 1
  refine List.filter_congr fun i hi => ?_
  have h1 := refCount_of h.inv i (by rw [h.np]; exact List.mem_range.1 hi)
  rw [← h1]
  by_cases h0 : refCount s.rowsOf (i : Int) = 0
  · rw [h0]; rfl
  · have h2 : ¬ ((refCount s.rowsOf (i : Int) : Nat) : Int) = 0 := by omega
    rw [beq_eq_false_iff_ne.2 h0, beq_eq_false_iff_ne.2 h2]
section
variable {W : World} {ρ : Nat → Option RRole} {Y : RLay} {p z : Nat} {s : PSt Int}
theorem found {id : Int} {r : List Nat × Nat} (hf : s.find id = some r) : ∃ i : Nat, id = i ∧ s.row i = some r ∧ s.rowsOf[i]? = some ⟨s.all 0 (i : Int), r.1, true⟩ := by
  obtain ⟨h0, hr⟩ := KvI.find_row hf
  obtain ⟨i, rfl⟩ := Int.eq_ofNat_of_zero_le h0
  rw [Int.toNat_natCast] at hr
  obtain ⟨ps, n⟩ := r
  exact ⟨i, rfl, hr, by rw [rowsOf_get s (row_lt hr), rowOf_some hr]⟩
theorem open_full (h : RefAt W ρ Y p z s.rowsOf) (hs : Small s p z 60) : Calls Try.prog 34 #[.pointer (some ⟨Y.r, 0, none⟩)] W fun e w' => e = .returned (.tuple #[.int .i64 (s.open_ [] 0).2.1, .int .i64 (s.open_ [] 0).2.2]) ∧ RStep W ρ Y p z (s.open_ [] 0).1.rowsOf w' := by
  obtain ⟨e1, e2⟩ := rows_open (s := s) (by have := hs.rows; omega)
  have hl := rowsOf_length s
  rw [e2]
  rw [e1]
  refine (open_R h (by rw [hl]; have := hs.rows; omega)).mono fun e w' ⟨h1, h2⟩ => ⟨?_, h2⟩
  rw [h1, hl]
theorem close_full (h : RefAt W ρ Y p z s.rowsOf) (hs : Small s p z 60) (id : Int) : Calls Try.prog 37 #[.pointer (some ⟨Y.r, 0, none⟩), .int .i64 id] W fun e w' => e = .returned (.int .i64 (s.close id).2) ∧ RStep W ρ Y p z (s.close id).1.rowsOf w' := by
  have hn : s.rowsOf.length ≤ 100 := by rw [rowsOf_length]; have := hs.rows; omega
  cases hf : s.find id with
  | none =>
    have e : s.close id = (s, 14) := by unfold PSt.close; rw [hf]
    rw [e]
    exact (close_wrong_R h hn id (by rw [refRight_of, hf]; rfl)).mono fun e w' ⟨h1, h2⟩ => ⟨h1, by rw [← h2]; exact RStep.same h⟩
  | some r =>
    obtain ⟨i, rfl, hr, hg⟩ := found hf
    obtain ⟨e1, e2⟩ := rows_close hr
    rw [e1, e2]
    exact close_R h hn hg rfl
theorem share_full (h : RefAt W ρ Y p z s.rowsOf) (hs : Small s p z 60) (hp : p ≤ 12) (hz : 1 ≤ z ∧ z ≤ 8) (id n : Int) : Calls Try.prog 36 #[.pointer (some ⟨Y.r, 0, none⟩), .int .i64 id, .int .i64 n] W fun e w' => e = .returned (.tuple #[.int .i64 (s.share id n).2.1, .int .i64 (s.share id n).2.2]) ∧ RStep W ρ Y p z (s.share id n).1.rowsOf w' := by
  have ht := tame_of hs hp hz.2
  cases hf : s.find id with
  | none =>
    have e : s.share id n = (s, 0, 14) := by unfold PSt.share; rw [hf]
    rw [e]
    exact (share_wrong_R h ht.1 id n (by rw [refRight_of, hf]; rfl)).mono fun e w' ⟨h1, h2⟩ => ⟨h1, by rw [← h2]; exact RStep.same h⟩
  | some r =>
    obtain ⟨i, rfl, hr, hg⟩ := found hf
    obtain ⟨ps, m⟩ := r
    have hal := all_length (0 : Int) hr
    by_cases hw : n < 0 ∨ (m : Int) < n
    · have e : s.share (i : Int) n = (s, 0, 10) := by unfold PSt.share; rw [hf]; simp only; rw [if_pos hw]
      rw [e]
      exact (share_range_R h ht hg n (by rw [hal]; exact hw)).mono fun e w' ⟨h1, h2⟩ => ⟨h1, by rw [← h2]; exact RStep.same h⟩
    · obtain ⟨k, rfl⟩ := Int.eq_ofNat_of_zero_le (show 0 ≤ n by omega)
      have hk : k ≤ m := by omega
      obtain ⟨e1, e2⟩ := rows_share hs.inv (by have := hs.rows; omega) hr hk
      have hl := rowsOf_length s
      rw [hs.sz] at e2
      rw [e2]
      rw [e1]
      have hkl : k ≤ (s.all 0 (i : Int)).length := by omega
      have hm : (k + z - 1) / z ≤ ps.length := by
        have h1 := hs.inv.len _ _ _ hr
        rw [hs.sz] at h1
        rw [h1]
        exact Nat.div_le_div_right (by omega)
      have hz' : 1 ≤ z ∧ z ≤ 64 := ⟨hz.1, by omega⟩
      rw [← hl]
      by_cases hL : Y.lv i = .slice none 0 0
      · by_cases hP : Y.pv i = .slice none 0 0
        · exact share00_R h ht hz' hg k hkl hm hL hP
        · exact share01_R h ht hz' hg k hkl hm hL hP
      · by_cases hP : Y.pv i = .slice none 0 0
        · exact share10_R h ht hz' hg k hkl hm hL hP
        · exact share11_R h ht hz' hg k hkl hm hL hP
theorem append_full (h : RefAt W ρ Y p z s.rowsOf) (hs : Small s p z 60) (hp : p ≤ 12) (hz : 1 ≤ z ∧ z ≤ 8) (id x : Int) : Calls Try.prog 35 #[.pointer (some ⟨Y.r, 0, none⟩), .int .i64 id, .int .i64 x] W fun e w' => e = .returned (.int .i64 (s.append id x).2) ∧ RStep W ρ Y p z (s.append id x).1.rowsOf w' := by
  have ht := tame_of hs hp hz.2
  have hp' : p ≤ 256 := by omega
  have hz' : 1 ≤ z ∧ z ≤ 64 := ⟨hz.1, by omega⟩
  cases hf : s.find id with
  | none =>
    have e : s.append id x = (s, 14) := by unfold PSt.append; rw [hf]
    rw [e]
    exact (app_wrong_R h ht.1 id x (by rw [refRight_of, hf]; rfl)).mono fun e w' ⟨h1, h2⟩ => ⟨h1, by rw [← h2]; exact RStep.same h⟩
  | some r =>
    obtain ⟨i, rfl, hr, hg⟩ := found hf
    obtain ⟨ps, n⟩ := r
    simp only at hg
    have hal := all_length (0 : Int) hr
    have hff := refFirst_of hs
    obtain ⟨d1, d2, d3, d4⟩ := len_div hs.inv hr
    have hcnt : n % s.size ≠ 0 → ∃ k, ps.length = k + 1 ∧ (refCount s.rowsOf (ps.getD k 0 : Int) : Int) = s.cnt (ps.getD (ps.length - 1) 0) := fun hm => by
      have hlen := d4 hm
      refine ⟨n / s.size, hlen, ?_⟩
      rw [show ps.length - 1 = n / s.size by rw [hlen]; exact Nat.add_sub_cancel _ _]
      exact refCount_of hs.inv _ (hs.inv.lt _ _ _ hr _ (by rw [getD_at _ _ (by rw [hlen]; exact Nat.lt_succ_self _)]; exact List.getElem_mem _))
    rcases append_cases hs.inv hr x with ⟨hm, hc⟩ | ⟨hm, hcn, hc⟩ | ⟨hm, hcn, h0, hrows⟩
    · rw [hs.sz, ← hal] at hm
      rcases hc with ⟨hfirst, e⟩ | ⟨a, hfirst, h0, hrows⟩
      · rw [hfirst] at hff
        rw [e]
        exact (app_full_R h ht hp' hz' hg x hm hff).mono fun e w' ⟨h1, h2⟩ => ⟨h1, by rw [← h2]; exact RStep.same h⟩
      · rw [hfirst] at hff
        rw [h0, hrows]
        by_cases hP : Y.pv i = .slice none 0 0
        · have hpo := h.p i _ hg
          rw [hP] at hpo
          have hps : ps = [] := by
            rcases hpo.2 with ⟨-, h1⟩ | ⟨gp, cap', cur, e, -⟩
            · exact List.length_eq_zero_iff.1 h1
            · cases e
          rw [hps] at hg ⊢
          exact app_new0_R h ht hp' hz' hg x hm hff hP
        · exact app_new_R h ht hp' hz' hg x hm hff hP
    · obtain ⟨k, hk, hck⟩ := hcnt hm
      rw [hs.sz, ← hal] at hm
      have hcn' : 1 < refCount s.rowsOf (ps.getD k 0 : Int) := by rw [← hck] at hcn; omega
      rcases hc with ⟨hfirst, e⟩ | ⟨a, hfirst, h0, hrows⟩
      · rw [hfirst] at hff
        rw [e]
        exact (app_fullB_R h ht hp' hz' hg x hm hk hcn' hff).mono fun e w' ⟨h1, h2⟩ => ⟨h1, by rw [← h2]; exact RStep.same h⟩
      · rw [hfirst] at hff
        rw [h0, hrows, show ps.length - 1 = k by omega]
        exact app_newB_R h ht hp' hz' hg x hm hk hcn' hff
    · obtain ⟨k, hk, hck⟩ := hcnt hm
      rw [hs.sz, ← hal] at hm
      rw [h0, hrows]
      exact app_same_R h ht hp' hz' hg x hm hk (by rw [← hck] at hcn; omega)
end
end Go.Proofs.Ytackjeckafoojaa.Kv
namespace Go.Proofs.Ytackjeckafoojaa.KvI
open Go.RowKit Kv
/-- The pool at G, the reference's at R, and other blocks. -/
def Both (B G R p z : Nat) (w0 w : World) (s : PSt Int) (rows : List RRow) (F : Nat → Prop) : Prop :=
  ∃ ρ Y, RefAt w ρ Y p z rows ∧ Y.r = R ∧ At B G w0 (fun k => ρ k ≠ none ∨ F k) w s ∧ (∀ k, k < B → ρ k = none) ∧ ∀ k, F k → ρ k = none ∧ B ≤ k
section
variable {B G R p z : Nat} {F : Nat → Prop} {w w' w0 : World} {s t : PSt Int} {rows rows' : List RRow}
theorem At.other {ρ ρ' : Nat → Option RRole} (h : At B G w0 (fun k => ρ k ≠ none ∨ F k) w s) (hf : RFr w ρ w' ρ') (hlt : ∀ k, ρ' k ≠ none → k < w'.heap.size) (hB : ∀ k, k < B → ρ k = none) : At B G w0 (fun k => ρ' k ≠ none ∨ F k) w' s := by
  obtain ⟨ρ1, L, a, b, c, d⟩ := h.ap
  refine ⟨⟨Kv.clip w ρ1, L, ?_, b, fun k hk => (clip_lt (Nat.lt_of_lt_of_le hk h.size)).trans (c k hk), fun k hk => ?_⟩, fun k hk => ?_, Nat.le_trans h.size hf.size, h.below.trans ⟨hf.os, hf.tape, hf.output, hf.size, fun k hk => (hf.block k (Nat.lt_of_lt_of_le hk h.size) (hB k hk)).1⟩⟩
  · refine a.clip.keep fun k r hr _ hlt => ?_
    rw [clip_lt hlt] at hr
    refine (hf.block k hlt ?_).1
    cases hk : ρ k with
    | none => rfl
    | some x =>
      have := d k (.inl (by rw [hk]; simp))
      rw [this] at hr; cases hr
  · rcases Nat.lt_or_ge k w.heap.size with hlt | hge
    · rw [clip_lt hlt]
      rcases hk with hk | hk
      · refine d k (.inl fun e => hk (hf.block k hlt e).2)
      · exact d k (.inr hk)
    · exact clip_ge hge
  · rcases hk with hk | hk
    · exact hlt k hk
    · exact Nat.lt_of_lt_of_le (h.lt k (.inr hk)) hf.size
theorem both_ref {ρ : Nat → Option RRole} {Y : RLay} (a : RefAt w ρ Y p z rows) (b : Y.r = R) (c : At B G w0 (fun k => ρ k ≠ none ∨ F k) w s) (d : ∀ k, k < B → ρ k = none) (e : ∀ k, F k → ρ k = none ∧ B ≤ k) (h : RStep w ρ Y p z rows' w') : Both B G R p z w0 w' s rows' F ∧ ∀ k, F k → w'.heap[k]? = w.heap[k]? := by
  obtain ⟨ρ', Y', a', b', f⟩ := h
  have hlt : ∀ k, F k → k < w.heap.size := fun k hk => c.lt k (.inr hk)
  exact ⟨⟨ρ', Y', a', b'.trans b, c.other f a'.lt d, fun k hk => (f.block k (Nat.lt_of_lt_of_le hk c.size) (d k hk)).2, fun k hk => ⟨(f.block k (hlt k hk) (e k hk).1).2, (e k hk).2⟩⟩, fun k hk => (f.block k (hlt k hk) (e k hk).1).1⟩
theorem Both.later (h : Both B G R p z w0 w s rows F) (hb : Below w.heap.size w w') : Both B G R p z w0 w' s rows F := by
  obtain ⟨ρ, Y, a, b, c, d, e⟩ := h
  exact ⟨ρ, Y, a.below hb, b, c.later hb, d, e⟩
theorem Both.below (h : Both B G R p z w0 w s rows F) : Below B w0 w ∧ B ≤ w.heap.size := by
  obtain ⟨ρ, Y, a, b, c, d, e⟩ := h
  exact ⟨c.below, c.size⟩
theorem Both.weaken {F' : Nat → Prop} (h : Both B G R p z w0 w s rows F) (hF : ∀ k, F' k → F k) : Both B G R p z w0 w s rows F' := by
  obtain ⟨ρ, Y, a, b, c, d, e⟩ := h
  exact ⟨ρ, Y, a, b, c.weaken fun k hk => hk.imp id (hF k), d, fun k hk => e k (hF k hk)⟩
theorem both_open (h : Both B G R p z w0 w s rows F) (hi : Inv s) : Calls Try.prog 14 #[.pointer (some ⟨G, 0, none⟩)] w fun e w' =>
    e = .returned (.tuple #[.int .i64 (s.open_ [] 0).2.1, .int .i64 (s.open_ [] 0).2.2]) ∧ Both B G R p z w0 w' (s.open_ [] 0).1 rows F ∧ ∀ k, F k → w'.heap[k]? = w.heap[k]? := by
  obtain ⟨ρ, Y, a, b, c, d, e⟩ := h
  exact (apart_open c.ap hi c.size c.lt).mono fun _ w' ⟨h1, h2, h3, h4⟩ => ⟨h1, ⟨ρ, Y, a.keep h3.size fun k hk => h4 k (.inl hk), b, c.call h2 h3, d, e⟩, fun k hk => h4 k (.inr hk)⟩
theorem both_append (h : Both B G R p z w0 w s rows F) (hi : Inv s) (id x : Int) : Calls Try.prog 15 #[.pointer (some ⟨G, 0, none⟩), .int .i64 id, .int .i64 x] w fun e w' =>
    e = .returned (.int .i64 (s.append id x).2) ∧ Both B G R p z w0 w' (s.append id x).1 rows F ∧ ∀ k, F k → w'.heap[k]? = w.heap[k]? := by
  obtain ⟨ρ, Y, a, b, c, d, e⟩ := h
  exact (apart_append c.ap hi c.size c.lt id x).mono fun _ w' ⟨h1, h2, h3, h4⟩ => ⟨h1, ⟨ρ, Y, a.keep h3.size fun k hk => h4 k (.inl hk), b, c.call h2 h3, d, e⟩, fun k hk => h4 k (.inr hk)⟩
theorem both_share (h : Both B G R p z w0 w s rows F) (hi : Inv s) (id n : Int) : Calls Try.prog 17 #[.pointer (some ⟨G, 0, none⟩), .int .i64 id, .int .i64 n] w fun e w' =>
    e = .returned (.tuple #[.int .i64 (s.share id n).2.1, .int .i64 (s.share id n).2.2]) ∧ Both B G R p z w0 w' (s.share id n).1 rows F ∧ ∀ k, F k → w'.heap[k]? = w.heap[k]? := by
  obtain ⟨ρ, Y, a, b, c, d, e⟩ := h
  exact (apart_share c.ap hi c.size c.lt id n).mono fun _ w' ⟨h1, h2, h3, h4⟩ => ⟨h1, ⟨ρ, Y, a.keep h3.size fun k hk => h4 k (.inl hk), b, c.call h2 h3, d, e⟩, fun k hk => h4 k (.inr hk)⟩
theorem both_close (h : Both B G R p z w0 w s rows F) (hi : Inv s) (id : Int) : Calls Try.prog 12 #[.pointer (some ⟨G, 0, none⟩), .int .i64 id] w fun e w' =>
    e = .returned (.int .i64 (s.close id).2) ∧ Both B G R p z w0 w' (s.close id).1 rows F ∧ ∀ k, F k → w'.heap[k]? = w.heap[k]? := by
  obtain ⟨ρ, Y, a, b, c, d, e⟩ := h
  exact (apart_close c.ap hi c.size c.lt id).mono fun _ w' ⟨h1, h2, h3, h4⟩ => ⟨h1, ⟨ρ, Y, a.keep h3.size fun k hk => h4 k (.inl hk), b, c.call h2 h3, d, e⟩, fun k hk => h4 k (.inr hk)⟩
theorem both_get (h : Both B G R p z w0 w s rows F) (hi : Inv s) (id i : Int) : Calls Try.prog 22 #[.pointer (some ⟨G, 0, none⟩), .int .i64 id, .int .i64 i] w fun e w' =>
    e = .returned (.tuple #[.int .i64 (s.get 0 id i).1, .int .i64 (s.get 0 id i).2]) ∧ ∃ m, w' = w.drewN m := by
  obtain ⟨ρ, Y, a, b, c, d, e⟩ := h
  exact apart_get c.ap hi id i
theorem bref_open (h : Both B G R p z w0 w t s.rowsOf F) (hs : Small s p z 60) : Calls Try.prog 34 #[.pointer (some ⟨R, 0, none⟩)] w fun e w' =>
    e = .returned (.tuple #[.int .i64 (s.open_ [] 0).2.1, .int .i64 (s.open_ [] 0).2.2]) ∧ Both B G R p z w0 w' t (s.open_ [] 0).1.rowsOf F ∧ ∀ k, F k → w'.heap[k]? = w.heap[k]? := by
  obtain ⟨ρ, Y, a, rfl, c, d, e⟩ := h
  exact (Kv.open_full a hs).mono fun _ w' ⟨h1, h2⟩ => ⟨h1, both_ref a rfl c d e h2⟩
theorem bref_append (h : Both B G R p z w0 w t s.rowsOf F) (hs : Small s p z 60) (hp : p ≤ 12) (hz : 1 ≤ z ∧ z ≤ 8) (id x : Int) : Calls Try.prog 35 #[.pointer (some ⟨R, 0, none⟩), .int .i64 id, .int .i64 x] w fun e w' =>
    e = .returned (.int .i64 (s.append id x).2) ∧ Both B G R p z w0 w' t (s.append id x).1.rowsOf F ∧ ∀ k, F k → w'.heap[k]? = w.heap[k]? := by
  obtain ⟨ρ, Y, a, rfl, c, d, e⟩ := h
  exact (Kv.append_full a hs hp hz id x).mono fun _ w' ⟨h1, h2⟩ => ⟨h1, both_ref a rfl c d e h2⟩
theorem bref_share (h : Both B G R p z w0 w t s.rowsOf F) (hs : Small s p z 60) (hp : p ≤ 12) (hz : 1 ≤ z ∧ z ≤ 8) (id n : Int) : Calls Try.prog 36 #[.pointer (some ⟨R, 0, none⟩), .int .i64 id, .int .i64 n] w fun e w' =>
    e = .returned (.tuple #[.int .i64 (s.share id n).2.1, .int .i64 (s.share id n).2.2]) ∧ Both B G R p z w0 w' t (s.share id n).1.rowsOf F ∧ ∀ k, F k → w'.heap[k]? = w.heap[k]? := by
  obtain ⟨ρ, Y, a, rfl, c, d, e⟩ := h
  exact (Kv.share_full a hs hp hz id n).mono fun _ w' ⟨h1, h2⟩ => ⟨h1, both_ref a rfl c d e h2⟩
theorem bref_close (h : Both B G R p z w0 w t s.rowsOf F) (hs : Small s p z 60) (id : Int) : Calls Try.prog 37 #[.pointer (some ⟨R, 0, none⟩), .int .i64 id] w fun e w' =>
    e = .returned (.int .i64 (s.close id).2) ∧ Both B G R p z w0 w' t (s.close id).1.rowsOf F ∧ ∀ k, F k → w'.heap[k]? = w.heap[k]? := by
  obtain ⟨ρ, Y, a, rfl, c, d, e⟩ := h
  exact (Kv.close_full a hs id).mono fun _ w' ⟨h1, h2⟩ => ⟨h1, both_ref a rfl c d e h2⟩
theorem bref_right (h : Both B G R p z w0 w t s.rowsOf F) (hs : Small s p z 60) (id : Int) : Calls Try.prog 38 #[.pointer (some ⟨R, 0, none⟩), .int .i64 id] w fun e w' => e = .returned (.bool (s.find id).isSome) ∧ w = w' := by
  obtain ⟨ρ, Y, a, rfl, c, d, e⟩ := h
  have := right_R a id (by rw [rowsOf_length]; have := hs.rows; omega)
  rw [refRight_of] at this
  exact this
end
end Go.Proofs.Ytackjeckafoojaa.KvI
namespace Go.Proofs.Ytackjeckafoojaa.KvI
open Go.RowKit Kv
attribute [local go_sem ↓] Kit.execOp_call_slot
attribute [local go_sem] Kit.callSlot_func
section
variable {B G R p z : Nat} {w w0 : World} {s : PSt Int}
theorem Both.add {rows : List RRow} (h : Both B G R p z w0 w s rows (fun _ => False)) (o : Obj) : Both B G R p z w0 (w.alloc o) s rows (fun k => k = w.heap.size) := by
  obtain ⟨ρ, Y, a, b, c, d, e⟩ := h
  have hb : Below w.heap.size w (w.alloc o) := (Below.refl _ _).alloc (Nat.le_refl _) _
  have hn : ρ w.heap.size = none := by
    cases hr : ρ w.heap.size with
    | none => rfl
    | some x => have := a.lt w.heap.size (by rw [hr]; simp); omega
  refine ⟨ρ, Y, a.below hb, b, ⟨((c.ap.none_ge c.size c.lt).weaken fun k hk => ?_).below hb, fun k hk => ?_, Nat.le_trans c.size hb.size, c.below.trans (hb.mono c.size)⟩, d, fun k hk => by rw [hk]; exact ⟨hn, c.size⟩⟩
  · rcases hk with hk | rfl
    · exact .inl (.inl hk)
    · exact .inr (Nat.le_refl _)
  · rcases hk with hk | rfl
    · exact Nat.lt_of_lt_of_le (a.lt k hk) hb.size
    · simp
theorem get_some {i : Nat} {ps : List Nat} {m : Nat} (hr : s.row i = some (ps, m)) {k : Nat} (hk : k < m) : (s.all 0 (i : Int))[k]? = some (s.get 0 (i : Int) (k : Int)).1 := by
  unfold PSt.all
  rw [find_of_row hr]
  simp [hk]
set_option maxRecDepth 100000 in
set_option maxHeartbeats 2000000 in
theorem does_both (h : Both B G R p z w0 w s s.rowsOf (fun _ => False)) (hs : Small s p z 60) (hp : p ≤ 12) (hz : 1 ≤ z ∧ z ≤ 8) (ask id n : Int) :
    Calls Try.prog 11 #[.pointer (some ⟨G, 0, none⟩), .pointer (some ⟨R, 0, none⟩), .agg #[.int .i64 ask, .int .i64 id, .int .i64 n]] w fun e w' => e = .returned (.bool true) ∧ Both B G R p z w0 w' (s.do_ ask id n) (s.do_ ask id n).rowsOf (fun _ => False) := by
  have hi := hs.inv
  obtain ⟨w1, hw1⟩ : ∃ w1, w1 = w.alloc (.cells #[.int .i64 ask, .int .i64 id, .int .i64 n] 36) := ⟨_, rfl⟩
  obtain ⟨D, hD⟩ : ∃ D, D = w.heap.size := ⟨_, rfl⟩
  have hA : Both B G R p z w0 w1 s s.rowsOf (fun k => k = D) := by rw [hw1, hD]; exact h.add _
  have hbD : w1.heap[D]? = some (.cells #[.int .i64 ask, .int .i64 id, .int .i64 n] 36 (0, 0)) := by rw [hw1, hD]; exact heap_alloc_new _ _
  have d0 : w1.cell? ⟨D, 0, none⟩ = some (.int .i64 ask) := by simp [World.cell?, hbD]
  have d1 : w1.cell? ⟨D, 1, none⟩ = some (.int .i64 id) := by simp [World.cell?, hbD]
  have d2 : w1.cell? ⟨D, 2, none⟩ = some (.int .i64 n) := by simp [World.cell?, hbD]
  have HA := Lib.hid hA
  have HW := Lib.hid (And.intro hw1 hD)
  clear h hA hbD hw1 hD
  go_enter Try.func11, Try.ntmps11
  by_cases a0 : ask = 0
  · have e0 : s.do_ ask id n = (s.open_ [] 0).1 := by unfold PSt.do_; rw [if_pos a0]
    rw [e0]
    subst a0
    have HC := Lib.hid (both_open HA.out hi)
    go_wp2_with fail
    rw [← HW.out.1, ← HW.out.2]
    with_reducible refine Calls.mono HC.out ?_
    rintro e w2 ⟨rfl, h2, hk⟩
    have HO := Lib.hid (bref_open h2 hs)
    clear h2 hk
    generalize (s.open_ [] 0).2.1 = x1 at HO ⊢
    generalize (s.open_ [] 0).2.2 = x2 at HO ⊢
    go_wp2_with fail
    with_reducible refine Calls.mono HO.out ?_
    rintro e w3 ⟨rfl, h3, hk3⟩
    have H3 := Lib.hid h3
    clear h3 hk3
    go_wp2_with fail
    all_goals (go_ret; exact ⟨rfl, H3.out.weaken (fun k hk => hk.elim)⟩)
  by_cases a1 : ask = 1
  · have e0 : s.do_ ask id n = (s.append id n).1 := by unfold PSt.do_; rw [if_neg a0, if_pos a1]
    rw [e0]
    subst a1
    clear e0 a0
    have HC0 := Lib.hid (fun W (hb : Below w1.heap.size w1 W) => both_append (HA.out.later hb) hi id n)
    have HR0 := Lib.hid (fun W (hb : Below w1.heap.size w1 W) => bref_append (HA.out.later hb) hs hp hz id n)
    go_wp2_with fail
    rw [← HW.out.1, ← HW.out.2]
    go_region_held3 (fun w' => w'.cell? ⟨D, 1, none⟩ = some (.int .i64 id) ∧ w'.cell? ⟨D, 2, none⟩ = some (.int .i64 n)) (first | exact ⟨d1, d2⟩ | assumption | go_keep)
      (first | (go_at_call 15; refine Calls.mono (both_append HRD.out hi id n) ?_; rintro e w2 ⟨rfl, h2, hk⟩; have d1 := cell_keep (a := ⟨D, 1, none⟩) (hk D rfl) d1; have d2 := cell_keep (a := ⟨D, 2, none⟩) (hk D rfl) d2; have HE := Lib.hid h2; clear h2 hk) | (go_at_call 15; refine Calls.mono (HC0.out _ (below_undrew (Below.refl _ _))) ?_; rintro e w2 ⟨rfl, h2, hk⟩; have d1 := cell_keep (a := ⟨D, 1, none⟩) (hk D rfl) d1; have d2 := cell_keep (a := ⟨D, 2, none⟩) (hk D rfl) d2; have HPD := Lib.hid h2; clear h2 hk) | (go_at_call 35; refine Calls.mono (bref_append HPD.out hs hp hz id n) ?_; rintro e w2 ⟨rfl, h2, hk⟩; have d1 := cell_keep (a := ⟨D, 1, none⟩) (hk D rfl) d1; have d2 := cell_keep (a := ⟨D, 2, none⟩) (hk D rfl) d2; have HE := Lib.hid h2; clear h2 hk) | (go_at_call 35; refine Calls.mono (HR0.out _ (below_undrew (Below.refl _ _))) ?_; rintro e w2 ⟨rfl, h2, hk⟩; have d1 := cell_keep (a := ⟨D, 1, none⟩) (hk D rfl) d1; have d2 := cell_keep (a := ⟨D, 2, none⟩) (hk D rfl) d2; have HRD := Lib.hid h2; clear h2 hk))
    all_goals (go_wp2_with fail; all_goals (go_ret; exact ⟨rfl, HE.out.weaken (fun k hk => hk.elim)⟩))
  by_cases a2 : ask = 2
  · have e0 : s.do_ ask id n = (s.share id n).1 := by unfold PSt.do_; rw [if_neg a0, if_neg a1, if_pos a2]
    rw [e0]
    subst a2
    clear e0 a0 a1
    have HC := Lib.hid (both_share HA.out hi id n)
    go_wp2_with fail
    rw [← HW.out.1, ← HW.out.2]
    with_reducible refine Calls.mono HC.out ?_
    rintro e w2 ⟨rfl, h2, hk⟩
    have d1 := cell_keep (a := ⟨D, 1, none⟩) (hk D rfl) d1
    have d2 := cell_keep (a := ⟨D, 2, none⟩) (hk D rfl) d2
    have HO := Lib.hid (bref_share h2 hs hp hz id n)
    clear h2 hk
    generalize (s.share id n).2.1 = x1 at HO ⊢
    generalize (s.share id n).2.2 = x2 at HO ⊢
    go_wp2_with fail
    with_reducible refine Calls.mono HO.out ?_
    rintro e w3 ⟨rfl, h3, hk3⟩
    have H3 := Lib.hid h3
    clear h3 hk3
    go_wp2_with fail
    all_goals (go_ret; exact ⟨rfl, H3.out.weaken (fun k hk => hk.elim)⟩)
  by_cases a3 : ask = 3
  · have e0 : s.do_ ask id n = (s.close id).1 := by unfold PSt.do_; rw [if_neg a0, if_neg a1, if_neg a2, if_pos a3]
    rw [e0]
    subst a3
    clear e0 a0 a1 a2
    have HC0 := Lib.hid (fun W (hb : Below w1.heap.size w1 W) => both_close (HA.out.later hb) hi id)
    have HR0 := Lib.hid (fun W (hb : Below w1.heap.size w1 W) => bref_close (HA.out.later hb) hs id)
    go_wp2_with fail
    rw [← HW.out.1, ← HW.out.2]
    go_region_held3 (fun w' => w'.cell? ⟨D, 1, none⟩ = some (.int .i64 id) ∧ w'.cell? ⟨D, 2, none⟩ = some (.int .i64 n)) (first | exact ⟨d1, d2⟩ | assumption | go_keep)
      (first | (go_at_call 12; refine Calls.mono (both_close HRD.out hi id) ?_; rintro e w2 ⟨rfl, h2, hk⟩; have d1 := cell_keep (a := ⟨D, 1, none⟩) (hk D rfl) d1; have d2 := cell_keep (a := ⟨D, 2, none⟩) (hk D rfl) d2; have HE := Lib.hid h2; clear h2 hk) | (go_at_call 12; refine Calls.mono (HC0.out _ (below_undrew (Below.refl _ _))) ?_; rintro e w2 ⟨rfl, h2, hk⟩; have d1 := cell_keep (a := ⟨D, 1, none⟩) (hk D rfl) d1; have d2 := cell_keep (a := ⟨D, 2, none⟩) (hk D rfl) d2; have HPD := Lib.hid h2; clear h2 hk) | (go_at_call 37; refine Calls.mono (bref_close HPD.out hs id) ?_; rintro e w2 ⟨rfl, h2, hk⟩; have d1 := cell_keep (a := ⟨D, 1, none⟩) (hk D rfl) d1; have d2 := cell_keep (a := ⟨D, 2, none⟩) (hk D rfl) d2; have HE := Lib.hid h2; clear h2 hk) | (go_at_call 37; refine Calls.mono (HR0.out _ (below_undrew (Below.refl _ _))) ?_; rintro e w2 ⟨rfl, h2, hk⟩; have d1 := cell_keep (a := ⟨D, 1, none⟩) (hk D rfl) d1; have d2 := cell_keep (a := ⟨D, 2, none⟩) (hk D rfl) d2; have HRD := Lib.hid h2; clear h2 hk))
    all_goals (go_wp2_with fail; all_goals (go_ret; exact ⟨rfl, HE.out.weaken (fun k hk => hk.elim)⟩))
  · have e0 : s.do_ ask id n = s := by unfold PSt.do_; rw [if_neg a0, if_neg a1, if_neg a2, if_neg a3]
    rw [e0]
    clear e0
    have HC := both_get HA.out hi id n
    cases hf : s.find id with
    | none =>
      have hg : s.get 0 id n = (0, 14) := by unfold PSt.get; rw [hf]
      rw [hg] at HC
      have HC := Lib.hid HC
      go_wp2_with fail
      rw [← HW.out.1, ← HW.out.2]
      with_reducible refine Calls.mono HC.out ?_
      rintro e w2 ⟨rfl, m, rfl⟩
      have HB := Lib.hid (HA.out.later (w' := w1.drewN m) ⟨rfl, rfl, rfl, Nat.le_refl _, fun _ _ => rfl⟩)
      have hR := bref_right HB.out hs id
      rw [hf] at hR
      have HR := Lib.hid hR
      clear hR
      go_wp2_with fail
      with_reducible refine Calls.mono HR.out ?_
      rintro e w3 ⟨rfl, rfl⟩
      go_wp2_with fail
      all_goals (go_ret; exact ⟨rfl, HB.out.weaken (fun k hk => hk.elim)⟩)
    | some r =>
      obtain ⟨ps, m0⟩ := r
      obtain ⟨i, rfl, hr, hg⟩ := found hf
      simp only at hg
      have hal := all_length (0 : Int) hr
      have h96 := all_le hs hp hz.2 i
      obtain ⟨ρ, Y, ra, rb, -, -, -⟩ := HA.out
      obtain ⟨c0, -, -, -⟩ := ra.cells
      obtain ⟨g, cap, hv, -, -, x0, -, -, -⟩ := ra.row hg
      obtain ⟨AL, cL, hLv⟩ := ra.lForm hg
      have hLo := ra.l i _ hg
      simp only at hLv hLo
      rw [hal] at hLv hLo h96
      rw [hLv] at x0 hLo
      rw [hv, rb, rowsOf_length] at c0
      have hil := row_lt hr
      have hi' : (i : Int) < (s.rows.length : Int) := by omega
      have h1 : ¬ (i : Int) < 0 := by omega
      have hm96 : (m0 : Int) ≤ 96 := by omega
      have hr60 : (s.rows.length : Int) ≤ 60 := by have := hs.rows; omega
      have HL := Lib.hid (And.intro hLo hr)
      clear ra rb hv hLv hLo hg hal h96 hil
      by_cases hw : n < 0 ∨ (m0 : Int) ≤ n
      · have hgt : s.get 0 (i : Int) n = (0, 10) := by unfold PSt.get; rw [hf]; simp only; rw [if_pos hw]
        rw [hgt] at HC
        have HC := Lib.hid HC
        by_cases hn0 : n < 0
        · clear hw
          go_wp2_with fail
          rw [← HW.out.1, ← HW.out.2]
          with_reducible refine Calls.mono HC.out ?_
          rintro e w2 ⟨rfl, m, rfl⟩
          have HB := Lib.hid (HA.out.later (w' := w1.drewN m) ⟨rfl, rfl, rfl, Nat.le_refl _, fun _ _ => rfl⟩)
          have hR := bref_right HB.out hs (i : Int)
          rw [hf] at hR
          have HR := Lib.hid hR
          clear hR
          go_wp2_with fail
          with_reducible refine Calls.mono HR.out ?_
          rintro e w3 ⟨rfl, rfl⟩
          go_wp2_with fail
          go_quiet (fail)
          go_wp2_with fail
          all_goals (go_ret; exact ⟨rfl, Both.weaken (HA.out.later (w' := w1.drewN (m + nq)) ⟨rfl, rfl, rfl, Nat.le_refl _, fun _ _ => rfl⟩) (fun k hk => hk.elim)⟩)
        · have hn1 : (m0 : Int) ≤ n := by omega
          clear hw
          go_wp2_with fail
          rw [← HW.out.1, ← HW.out.2]
          with_reducible refine Calls.mono HC.out ?_
          rintro e w2 ⟨rfl, m, rfl⟩
          have HB := Lib.hid (HA.out.later (w' := w1.drewN m) ⟨rfl, rfl, rfl, Nat.le_refl _, fun _ _ => rfl⟩)
          have hR := bref_right HB.out hs (i : Int)
          rw [hf] at hR
          have HR := Lib.hid hR
          clear hR
          go_wp2_with fail
          with_reducible refine Calls.mono HR.out ?_
          rintro e w3 ⟨rfl, rfl⟩
          go_wp2_with fail
          go_quiet (fail)
          go_wp2_with fail
          all_goals (go_ret; exact ⟨rfl, Both.weaken (HA.out.later (w' := w1.drewN (m + nq)) ⟨rfl, rfl, rfl, Nat.le_refl _, fun _ _ => rfl⟩) (fun k hk => hk.elim)⟩)
      · obtain ⟨k, rfl⟩ := Int.eq_ofNat_of_zero_le (show 0 ≤ n by omega)
        have hk : k < m0 := by omega
        have hk' : (k : Int) < (m0 : Int) := by omega
        have hn0 : ¬ (k : Int) < 0 := by omega
        have hgs := get_some hr hk
        have hgt : (s.get 0 (i : Int) (k : Int)).2 = 0 := by unfold PSt.get; rw [hf]; simp only; rw [if_neg hw]
        rw [hgt] at HC
        obtain ⟨v, hv⟩ : ∃ v, v = (s.get 0 (i : Int) (k : Int)).1 := ⟨_, rfl⟩
        rw [← hv] at HC hgs
        have HC := Lib.hid HC
        obtain ⟨gl, cp', e', -, hcell⟩ := own_read HL.out.1 (by omega)
        injection e' with e1 _ e3
        subst e1
        subst e3
        have y0 := hcell k (.int .i64 v) (by rw [List.getElem?_map, hgs]; rfl)
        clear hw hcell hgs hv
        go_wp2_with fail
        rw [← HW.out.1, ← HW.out.2]
        with_reducible refine Calls.mono HC.out ?_
        rintro e w2 ⟨rfl, m, rfl⟩
        have HB := Lib.hid (HA.out.later (w' := w1.drewN m) ⟨rfl, rfl, rfl, Nat.le_refl _, fun _ _ => rfl⟩)
        have hR := bref_right HB.out hs (i : Int)
        rw [hf] at hR
        have HR := Lib.hid hR
        clear hR
        go_wp2_with fail
        with_reducible refine Calls.mono HR.out ?_
        rintro e w3 ⟨rfl, rfl⟩
        go_wp2_with fail
        go_quiet (fail)
        go_wp2_with fail
        all_goals (go_ret; exact ⟨rfl, Both.weaken (HA.out.later (w' := w1.drewN (m + nq)) ⟨rfl, rfl, rfl, Nat.le_refl _, fun _ _ => rfl⟩) (fun k hk => hk.elim)⟩)
end
end Go.Proofs.Ytackjeckafoojaa.KvI
