/- A pool of things of type byte: a page taken. -/
import Derived.Test.YtackjeckafoojaaKvBF
namespace Go.Proofs.Ytackjeckafoojaa.KvB
open Go.RowKit Kv
attribute [local go_sem ↓] Kit.execOp_call_slot
attribute [local go_sem] Kit.callSlot_func
variable {W : World} {ρ : Nat → Option Role} {L : Lay} {s : PSt Int}

/-- What 'take' leaves. -/
structure Took (W : World) (ρ : Nat → Option Role) (L : Lay) (s : PSt Int) (i : Nat) (l : List (Int)) (W' : World) (ρ' : Nat → Option Role) (L' : Lay) : Prop where
  pool : PoolAt K enc W' ρ' L' (s.setPage i (l, 1))
  g : L'.g = L.g
  pb : L'.pb = L.pb
  mb : L'.mb = L.mb
  rb : L'.rb = L.rb
  pv : L'.pv = L.pv
  fr : Fr W ρ W' ρ'
def TookPost (W : World) (ρ : Nat → Option Role) (L : Lay) (s : PSt Int) (i : Nat) (l : List (Int)) (e : Ending) (W' : World) : Prop :=
  e = .returned (.int .i64 (i : Int)) ∧ ∃ ρ' L', Took W ρ L s i l W' ρ' L'

theorem page_facts (h : PoolAt K enc W ρ L s) {i : Nat} (hi : i < s.pages.length) : (∃ A c, W.cell? ⟨L.pb, i * 2, none⟩ = some (.slice A (s.lst i).length c)) ∧ W.cell? ⟨L.pb, i * 2 + 1, none⟩ = some (.int .i64 (s.cnt i)) ∧ W.frozen? ⟨L.pb, i * 2, none⟩ = false ∧ W.frozen? ⟨L.pb, i * 2 + 1, none⟩ = false := by
  obtain ⟨p0, p1⟩ := h.pageCell i hi
  have ho := h.page i hi
  refine ⟨?_, p1, h.pageFrozen _, h.pageFrozen _⟩
  rcases ho.2 with ⟨e, h0⟩ | ⟨g, cap, cur, e, _⟩
  · exact ⟨none, 0, by rw [p0, e, h0]⟩
  · exact ⟨_, _, by rw [p0, e]⟩

theorem take_none (h : PoolAt K enc W ρ L s) (hnp : s.pages.length ≤ 256) (v : Value) (hf : s.first = none) : Calls Try.prog 52 #[.pointer (some ⟨L.g, 0, none⟩), v] W fun e w' => e = .returned (.int .i64 (-1)) ∧ Below W.heap.size W w' := by
  have hc := free_any h hnp
  rw [show firstI s = -1 by unfold firstI; rw [hf]] at hc
  have HC := Lib.hid hc
  clear hc h hf
  go_enter Try.func52, Try.ntmps52
  go_wp2_with fail
  with_reducible refine Calls.mono HC.out ?_
  rintro e w1 ⟨rfl, hb⟩
  have HB := Lib.hid hb
  clear hb
  go_wp2_with fail
  go_ret
  exact ⟨rfl, HB.out⟩

set_option maxRecDepth 100000 in
set_option maxHeartbeats 2000000 in
theorem take_some (h : PoolAt K enc W ρ L s) (hnp : s.pages.length ≤ 256) (b0 : Nat) (v : Value) (l : List (Int)) (hl : W.ownsRow b0 5 1 v l.length (l.map enc)) (hlen : l.length ≤ 64) (i : Nat) (hf : s.first = some i) :
    Calls Try.prog 52 #[.pointer (some ⟨L.g, 0, none⟩), v] W (TookPost W ρ L s i l) := by
  have hc := free_any h hnp
  rw [show firstI s = (i : Int) by unfold firstI; rw [hf]] at hc
  have hi := (first_spec hf).1
  have hne : ((i : Int) != -1) = true := by simp
  have hi0 : (0 : Int) ≤ (i : Int) := by omega
  have hi1 : (i : Int) < (s.pages.length : Int) := by omega
  obtain ⟨A, cp, rfl⟩ := own_form hl
  have HC := Lib.hid (And.intro hc (And.intro h hl))
  clear hc h hf hl
  go_enter Try.func52, Try.ntmps52
  go_wp2_with fail
  with_reducible refine Calls.mono HC.out.1 ?_
  rintro e w1 ⟨rfl, hb⟩
  have hp1 := HC.out.2.1.below hb
  have hl1 := own_same (W' := w1) HC.out.2.2 (fun b hb' => hb.block b (own_lt' HC.out.2.2 hb'))
  obtain ⟨c0, c1, c2, c3⟩ := hp1.cells
  have HB := Lib.hid (And.intro hb (And.intro hp1 hl1))
  have hglt : L.g < w1.heap.size := block_lt_of_cell c0
  have hgpb : L.pb ≠ L.g := role_ne HC.out.2.1.rpb HC.out.2.1.rg (by simp)
  have hgpb2 : L.g ≠ L.pb := hgpb.symm
  clear hb hp1 hl1 c1 c2 c3
  go_wp2_with fail
  go_region_held3 (fun w' => w'.cell? ⟨L.g, 0, none⟩ = some (.slice (some ⟨L.pb, 0, none⟩) s.pages.length s.pages.length)) (first | assumption | go_keep)
    (first | ((go_at_call 59; refine Calls.mono (clone_any _ b0 _ l.length (l.map enc) (by exact HB.out.2.2) (by intro u hu; simp at hu; obtain ⟨x, _, rfl⟩ := hu; rfl) (by omega)) ?_; rintro e w2 ⟨v', rfl, hcl⟩; obtain ⟨A', cp', rfl⟩ := own_form hcl.own; have e0 := (hcl.below.cell (p := ⟨L.g, 0, none⟩) hglt).trans c0; obtain ⟨⟨A2, cp2, e1⟩, e2, e3, e4⟩ := page_facts (HB.out.2.1.below (below_undrew hcl.below)) hi; have HCL := Lib.hid hcl; clear hcl)))
  go_wp2_with fail
  go_ret
  have hT := HB.out.2.1.taken hi (.slice A' l.length cp') l (below_undrew HCL.out.below) HCL.out.own
  exact ⟨rfl, _, _, hT.1, rfl, rfl, rfl, rfl, rfl, (Fr.of_below HB.out.1).trans hT.2⟩

set_option maxRecDepth 100000 in
set_option maxHeartbeats 2000000 in
theorem take_nil (h : PoolAt K enc W ρ L s) (hnp : s.pages.length ≤ 256) (i : Nat) (hf : s.first = some i) :
    Calls Try.prog 52 #[.pointer (some ⟨L.g, 0, none⟩), .slice none 0 0] W fun e w' => e = .returned (.int .i64 (i : Int)) ∧ PoolAt K enc w' ρ { L with lv := fun j => if j = i then .slice none 0 0 else L.lv j } (s.setPage i ([], 1)) ∧ Fr W ρ w' ρ := by
  have hc := free_any h hnp
  rw [show firstI s = (i : Int) by unfold firstI; rw [hf]] at hc
  have hi := (first_spec hf).1
  have hne : ((i : Int) != -1) = true := by simp
  have hi0 : (0 : Int) ≤ (i : Int) := by omega
  have hi1 : (i : Int) < (s.pages.length : Int) := by omega
  have HC := Lib.hid (And.intro hc (And.intro h True.intro))
  clear hc h hf
  go_enter Try.func52, Try.ntmps52
  go_wp2_with fail
  with_reducible refine Calls.mono HC.out.1 ?_
  rintro e w1 ⟨rfl, hb⟩
  have hp1 := HC.out.2.1.below hb
  obtain ⟨c0, c1, c2, c3⟩ := hp1.cells
  have HB := Lib.hid (And.intro hb (And.intro hp1 True.intro))
  have hglt : L.g < w1.heap.size := block_lt_of_cell c0
  have hgpb : L.pb ≠ L.g := role_ne HC.out.2.1.rpb HC.out.2.1.rg (by simp)
  have hgpb2 : L.g ≠ L.pb := hgpb.symm
  clear hb hp1 c1 c2 c3
  go_wp2_with fail
  go_region_held3 (fun w' => w'.cell? ⟨L.g, 0, none⟩ = some (.slice (some ⟨L.pb, 0, none⟩) s.pages.length s.pages.length)) (first | assumption | go_keep)
    (first | ((go_at_call 59; refine Calls.mono (clone_nil _) ?_; rintro e w2 ⟨rfl, rfl⟩; have e0 := c0; obtain ⟨⟨A2, cp2, e1⟩, e2, e3, e4⟩ := page_facts HB.out.2.1 hi)))
  go_wp2_with fail
  go_ret
  have hT := HB.out.2.1.taken hi (.slice none 0 0) [] (Below.refl _ _) (World.ownsRow_nil _ _ _ _)
  exact ⟨rfl, (hT.1.keep fun _ _ _ _ _ => rfl), (Fr.of_below HB.out.1).trans ⟨hT.2.os, hT.2.tape, hT.2.output, hT.2.size, hT.2.block⟩⟩
end Go.Proofs.Ytackjeckafoojaa.KvB
