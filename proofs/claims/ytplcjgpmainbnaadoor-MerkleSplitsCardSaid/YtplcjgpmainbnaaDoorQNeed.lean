/- As XQMix; what is held (S) is asked for by some numbers only, and let go behind an operation that waits for all of those. -/
import Derived.Test.YtplcjgpmainbnaaDoorQMix
set_option linter.unusedVariables false
set_option linter.unusedSimpArgs false
namespace Go.Proofs.YtplcjgpmainbnaaDoor.QTail
open Go
section
variable {P : Program} {ops : Array Oper} {md : Region.Mode} {S : World → Prop} {need : Nat → Bool}
/-- Number j waits for every number that asks for S. -/
def sinkN (need : Nat → Bool) (md : Region.Mode) (ops : Array Oper) (j : Nat) : Bool := (List.range ops.size).all fun i => !(need i) || i == j || ((ops[j]?.map (·.after)).getD #[]).any fun e => Region.binds md e && e.on == i
theorem sinkN_on {j i : Nat} {oj : Oper} (h : sinkN need md ops j = true) (hj : ops[j]? = some oj) (hi : i < ops.size) (hn : need i = true) (hne : i ≠ j) : ∃ e ∈ oj.after, Region.binds md e = true ∧ e.on = i := by
  have h1 := List.all_eq_true.1 h i (List.mem_range.2 hi)
  simp only [hj, hn, Option.map_some, Option.getD_some, Bool.or_eq_true, beq_iff_eq, Bool.not_true, Bool.false_eq_true, false_or] at h1
  rcases h1 with h1 | h1
  · exact absurd h1 hne
  · obtain ⟨e, he, h2⟩ := Array.any_eq_true'.1 h1
    simp only [Bool.and_eq_true, beq_iff_eq] at h2
    exact ⟨e, he, h2.1, h2.2⟩
def wpAnyN (P : Program) (md : Region.Mode) (ops : Array Oper) (Q : Exit → Act → World → Prop) (S : World → Prop) (need : Nat → Bool) : Nat → Array Bool → Act → World → Prop
  | 0, listed, a, w => Region.ready md ops listed = [] ∧ Q .normal a w
  | f + 1, listed, a, w =>
    (Region.ready md ops listed = [] → Q .normal a w) ∧
    ∀ i ∈ Region.ready md ops listed, wpOp P ops Q i (fun a' w' => (S w → sinkN need md ops i = false → S w') ∧ wpAnyN P md ops Q S need f (listed.setIfInBounds i true) a' w') a w
theorem wpAny_of_N {Q : Exit → Act → World → Prop} : ∀ (f : Nat) (listed : Array Bool) (a : Act) (w : World), wpAnyN P md ops Q S need f listed a w → wpAny P md ops Q f listed a w
  | 0, _, _, _, h => h
  | f + 1, _, _, _, h => ⟨h.1, fun i hi => wpOp_mono (fun a' w' h' => wpAny_of_N f _ a' w' h'.2) (h.2 i hi)⟩
theorem wpAnyN_first {Q : Exit → Act → World → Prop} {i : Nat} {oi : Oper} {v : Value} (hi : ops[i]? = some oi) (hsel : ∀ (j : Nat) (o : Oper) cs b, ops[j]? = some o → o.op ≠ .select cs b)
    (hQ : ∀ c a w, Q (.panic c) (a.put oi.dst v) w → Q (.panic c) a w) :
    ∀ (f : Nat) (listed : Array Bool) (a : Act) (w : World),
      (∀ j oj, ops[j]? = some oj → j ≠ i → listed.getD j true = false → (∀ e ∈ oj.after, Region.binds md e = true → e.on ≠ i) → oi.apart ops oj = true) →
      i ∈ Region.ready md ops listed → YieldsIf P ops (fun w => need i = true → S w) oi v a → (need i = true → S w) →
      wpAnyN P md ops Q S need f (listed.setIfInBounds i true) (a.put oi.dst v) w → wpAnyN P md ops Q S need (f + 1) listed a w := by
  have hisz : i < ops.size := (Array.getElem?_eq_some_iff.1 hi).1
  intro f
  induction f with
  | zero =>
    intro listed a w _ hr hy hS H
    refine ⟨fun h => (by rw [h] at hr; cases hr), fun j hj => ?_⟩
    by_cases hji : j = i
    · subst hji; exact hy.wpOp hi hS ⟨fun h _ => h, H⟩
    · have := ready_mono hj hji
      rw [H.1] at this
      cases this
  | succ f ih =>
    intro listed a w hfree hr hy hS H
    refine ⟨fun h => (by rw [h] at hr; cases hr), fun j hj => ?_⟩
    by_cases hji : j = i
    · subst hji; exact hy.wpOp hi hS ⟨fun h _ => h, H⟩
    · have h1 := H.2 j (ready_mono hj hji)
      obtain ⟨hjun, oj, hoj, hall⟩ := mem_ready.1 hj
      have hnot : ∀ e ∈ oj.after, Region.binds md e = true → e.on ≠ i := fun e he hb heq => by
        have h1 := hall e he hb
        rw [heq, getD_both (mem_ready.1 hr).1] at h1
        cases h1
      have hns : need i = true → sinkN need md ops j = false := fun hn => by
        cases hs : sinkN need md ops j with
        | false => rfl
        | true =>
          obtain ⟨e, he, hb, heq⟩ := sinkN_on hs hoj hisz hn (Ne.symm hji)
          exact absurd heq (hnot e he hb)
      have h2 := wpOp_putIf hoj (hfree j oj hoj hji hjun hnot) (fun cs b => hsel i oi cs b hi) (fun cs b => hsel j oj cs b hoj) hQ hy h1
      have hfree' : ∀ k ok, ops[k]? = some ok → k ≠ i → (listed.setIfInBounds j true).getD k true = false →
          (∀ e ∈ ok.after, Region.binds md e = true → e.on ≠ i) → oi.apart ops ok = true := fun k ok hk hki hun hno => by
        refine hfree k ok hk hki ?_ hno
        by_cases hjk : j = k
        · subst hjk; exact hjun
        · rw [getD_set_ne true hjk] at hun; exact hun
      refine wpOp_mono (fun a' w' h3 => ⟨h3.2.1, ih (listed.setIfInBounds j true) a' w' hfree' (ready_mono hr (Ne.symm hji)) h3.1 (fun hn => h3.2.1 (hS hn) (hns hn)) ?_⟩) h2
      rw [Array.setIfInBounds_comm _ _ hji]
      exact h3.2.2
/-- The numbers in an order of one's own: a read that asks for S, an operation that asks for no world, or the only one that may come up. -/
def mixN (P : Program) (ops : Array Oper) (S C : World → Prop) (need : Nat → Bool) (snk : Nat → Bool) (K : Act → World → Prop) : List (Nat × Oper) → Act → World → Prop
  | [], a, w => K a w
  | (k, o) :: rest, a, w =>
    (headOk2 o = true ∧ need k = true ∧ S w ∧ wpQuiet P ops C (fun a' => mixN P ops S C need snk K rest a' w) [o] a) ∨
    (headOk2 o = true ∧ need k = false ∧ wpQuiet P ops (fun w' => ∃ i : World, w' = i) (fun a' => mixN P ops S C need snk K rest a' w) [o] a) ∨
    (headOk2 o = false ∧ wpList P ops (OnlyNormal fun a' w' => (snk k = false → S w') ∧ mixN P ops S C need snk K rest a' w') [o] a w)
theorem wpAnyN_mix {K : Act → World → Prop} (hsel : Region.noSelect ops = true) : ∀ (ks : List (Nat × Oper)) (listed : Array Bool) (a : Act) (w : World), (∀ x ∈ ks, ops[x.1]? = some x.2) → mixB md ops (ks.map (·.1)) listed = true →
    mixN P ops S S need (sinkN need md ops) K ks a w → wpAnyN P md ops (OnlyNormal K) S need ks.length listed a w
  | [], _, _, _, _, hB, h => ⟨by simpa [mixB, List.isEmpty_iff] using hB, rfl, h⟩
  | (k, o) :: ks, listed, a, w, hl, hB, h => by
    have h0 : ops[k]? = some o := hl (k, o) (by simp)
    have hl' : ∀ x ∈ ks, ops[x.1]? = some x.2 := fun x hx => hl x (by simp [hx])
    simp only [List.map_cons, mixB, h0, Option.map_some, Option.getD_some, Bool.and_eq_true] at hB
    rcases h with ⟨hk, hn, hS, h⟩ | ⟨hk, hn, h⟩ | ⟨hk, h⟩
    · rw [if_pos hk, Bool.and_eq_true] at hB
      have hst : qOp P ops S k (fun a' => mixN P ops S S need (sinkN need md ops) K ks a' w) a := by unfold qOp; simp only [h0]; exact h
      obtain ⟨v, hy, hK⟩ := yieldsIn_of_qOp h0 hst
      have hy' : YieldsIf P ops (fun w => need k = true → S w) o v a := (yieldsIf_of2 hk hy).imp (fun ⟨e1, e2⟩ => ⟨e1, fun w hw => e2 w (hw hn)⟩) id
      exact wpAnyN_first h0 (Region.noSelect_spec hsel) (fun c a w h => absurd h.1 (by simp)) _ _ _ _ (Region.free_spec h0 hB.1.2) (by simpa using hB.1.1) hy' (fun _ => hS) (wpAnyN_mix hsel ks _ _ _ hl' hB.2 hK)
    · rw [if_pos hk, Bool.and_eq_true] at hB
      have hst : qOp P ops (fun w' => ∃ i : World, w' = i) k (fun a' => mixN P ops S S need (sinkN need md ops) K ks a' w) a := by unfold qOp; simp only [h0]; exact h
      obtain ⟨v, hy, hK⟩ := yieldsIn_of_qOp h0 hst
      have hy' : YieldsIf P ops (fun w => need k = true → S w) o v a := (yieldsIf_of2 hk hy).imp (fun ⟨e1, e2⟩ => ⟨e1, fun w _ => e2 w ⟨w, rfl⟩⟩) id
      exact wpAnyN_first h0 (Region.noSelect_spec hsel) (fun c a w h => absurd h.1 (by simp)) _ _ _ _ (Region.free_spec h0 hB.1.2) (by simpa using hB.1.1) hy' (fun h => by rw [hn] at h; cases h) (wpAnyN_mix hsel ks _ _ _ hl' hB.2 hK)
    · rw [hk] at hB
      simp only [Bool.false_eq_true, if_false, decide_eq_true_eq] at hB
      refine ⟨fun h1 => (by rw [hB.1] at h1; cases h1), fun i hi => ?_⟩
      rw [hB.1] at hi
      have hik : i = k := by simpa using hi
      subst hik
      exact wpOp_only (fun a' w' h' => ⟨fun _ => h'.2.1, wpAnyN_mix hsel ks _ _ _ hl' hB.2 h'.2.2⟩) (wpOp_of_one h0 h)
theorem mixN_need {C : World → Prop} {snk : Nat → Bool} {K : Act → World → Prop} {k : Nat} {o : Oper} {rest : List (Nat × Oper)} {a : Act} {w : World} (hk : headOk2 o = true) (hn : need k = true) (hS : S w) (h : wpQuiet P ops C (fun a' => mixN P ops S C need snk K rest a' w) [o] a) : mixN P ops S C need snk K ((k, o) :: rest) a w := .inl ⟨hk, hn, hS, h⟩
theorem mixN_free {C : World → Prop} {snk : Nat → Bool} {K : Act → World → Prop} {k : Nat} {o : Oper} {rest : List (Nat × Oper)} {a : Act} {w : World} (hk : headOk2 o = true) (hn : need k = false) (h : wpQuiet P ops (fun w' => ∃ i : World, w' = i) (fun a' => mixN P ops S C need snk K rest a' w) [o] a) : mixN P ops S C need snk K ((k, o) :: rest) a w := .inr (.inl ⟨hk, hn, h⟩)
theorem mixN_step {C : World → Prop} {snk : Nat → Bool} {K : Act → World → Prop} {k : Nat} {o : Oper} {rest : List (Nat × Oper)} {a : Act} {w : World} (hk : headOk2 o = false) (h : wpList P ops (OnlyNormal fun a' w' => (snk k = false → S w') ∧ mixN P ops S C need snk K rest a' w') [o] a w) : mixN P ops S C need snk K ((k, o) :: rest) a w := .inr (.inr ⟨hk, h⟩)
def pairOps (l : List Oper) (ks : List Nat) : List (Nat × Oper) := ks.filterMap fun k => (l[k]?).map fun o => (k, o)
theorem pairOps_at (l : List Oper) (ks : List Nat) : ∀ x ∈ pairOps l ks, l.toArray[x.1]? = some x.2 := fun x hx => by
  obtain ⟨k, -, hk⟩ := List.mem_filterMap.1 hx
  obtain ⟨o, ho, rfl⟩ := Option.map_eq_some_iff.1 hk
  simpa using ho
theorem pairOps_fst (l : List Oper) : ∀ (ks : List Nat), (ks.all fun k => decide (k < l.length)) = true → (pairOps l ks).map (·.1) = ks
  | [], _ => rfl
  | k :: ks, h => by
    simp only [List.all_cons, Bool.and_eq_true, decide_eq_true_eq] at h
    have ih := pairOps_fst l ks h.2
    unfold pairOps at ih ⊢
    rw [List.filterMap_cons, List.getElem?_eq_getElem h.1]
    simp only [Option.map_some, List.map_cons, ih]
/-- The whole region, the numbers in an order of one's own. -/
theorem wp_region_mix {id : Nat} {Q : Exit → Act → World → Prop} {a : Act} {w : World} {l : List Oper} (S : World → Prop) (need : Nat → Bool) (ks : List Nat) (hm : P.follows .mixedOrders = true) (hlen : l.length = ks.length) (hk : (ks.all fun k => decide (k < l.length)) = true) (hsel : Region.noSelect l.toArray = true)
    (hB : mixB .any l.toArray ks (Array.replicate l.length false) = true)
    (h : ∀ (I : Type) (F : I → World), (∀ i, S (F i)) → mixN P l.toArray S (fun w' => ∃ i, w' = F i) need (sinkN need .any l.toArray) (Q .normal) (pairOps l ks) a w.drew) : (Code.region id l.toArray true).wp P Q a w := by
  refine Code.wp_mono (fun e a w h => by obtain ⟨rfl, h⟩ := h; exact h) (wp_region_any (Q := OnlyNormal (Q .normal)) hm (wpAny_of_N (S := S) (need := need) _ _ _ _ ?_))
  have h1 := h {w' : World // S w'} (fun i => i.1) (fun i => i.2)
  rw [class_eq S] at h1
  have h2 := wpAnyN_mix (md := .any) hsel (pairOps l ks) (Array.replicate l.length false) a w.drew (pairOps_at l ks) (by rw [pairOps_fst l ks hk]; exact hB) h1
  have h3 : (pairOps l ks).length = l.length := by rw [hlen, ← congrArg List.length (pairOps_fst l ks hk), List.length_map]
  rw [h3] at h2
  simpa using h2
end
end Go.Proofs.YtplcjgpmainbnaaDoor.QTail
