/- A region that draws its order, in a round of a range over a function: reads whose cells nobody in the region writes are taken first; then the rest, one after the other. -/
import Derived.Test.YtplcjgpmainbnaaDoorQRound
import Derived.OrdersHeld
set_option linter.unusedVariables false
set_option linter.unusedSimpArgs false
namespace Go.Proofs.YtplcjgpmainbnaaDoor.QTail
open Go
section
variable {P : Program} {ops : Array Oper} {md : Region.Mode} {S : World → Prop}
/-- An operation that, where it comes to an end, has a value and calls nobody. -/
def headOk (o : Oper) : Bool := match o.op with
  | .move _ | .assign _ | .load _ _ | .fieldAddr _ _ _ | .indexAddr _ _ _ | .slice _ _ _ _ _ | .binOp _ _ _ _ _ => true
  | _ => false
theorem valued {m : Sem Value} {w w' : World} {x : Next} (h : (do pure (Next.value (← m)) : Sem Next).run P w = .ok x w') : ∃ v, x = .value v := by
  simp only [Sem.run_bind] at h
  cases hm : m.run P w with
  | ok v w1 =>
    rw [hm] at h
    simp only [Result.andThen_ok, Sem.run_pure] at h
    injection h with h1 h2
    exact ⟨v, h1.symm⟩
  | halt x w1 => rw [hm] at h; cases h
theorem headOk_value {o : Oper} (h : headOk o = true) {ρ : Operand → Value} {w w' : World} {x : Next} (hr : (execOp ρ o).run P w = .ok x w') : ∃ v, x = .value v := by
  unfold headOk at h
  unfold execOp at hr
  cases ho : o.op <;> rw [ho] at h <;> first | (cases h; done) | (simp only [ho] at hr; first | exact valued hr | (simp only [Sem.run_pure] at hr; injection hr with h1 h2; exact ⟨_, h1.symm⟩))
theorem yieldsIf_of {o : Oper} {v : Value} {a : Act} (hk : headOk o = true) (h : YieldsIn P ops S o v a) : YieldsIf P ops S o v a := by
  rcases h with ⟨hw, hv⟩ | ⟨hw, rfl⟩
  · refine .inl ⟨hw, fun w hS => ?_⟩
    have h1 := hv w hS
    unfold Oper.quietAt at h1
    cases hr : (execOp a.eval o).run P w with
    | ok x w' =>
      obtain ⟨u, rfl⟩ := headOk_value hk hr
      rw [hr] at h1
      obtain ⟨rfl, rfl⟩ := h1
      rfl
    | halt x w' => rw [hr] at h1; exact h1.elim
  · exact .inr ⟨hw, rfl⟩
theorem wpOp_only {i : Nat} {R R' K K' : Act → World → Prop} {a : Act} {w : World} (hK : ∀ a w, K a w → K' a w) (h : wpOp P ops (OnlyNormal R) i K a w) : wpOp P ops (OnlyNormal R') i K' a w := by
  unfold wpOp at *
  cases ho : ops[i]? with
  | none => simp only [ho] at h ⊢; exact hK _ _ h
  | some o =>
    simp only [ho] at h ⊢
    by_cases hw : Region.wanted o (yielded ops a.tmps) = true
    · simp only [hw, if_true] at h ⊢
      rcases h with h | ⟨_, h⟩
      · refine .inl ?_
        unfold Oper.wp at *
        generalize (execOp a.eval o).run P w = r at *
        cases r with
        | ok x w' =>
          cases x with
          | value v => exact hK _ _ h
          | skip => exact hK _ _ h
          | defer d => exact hK _ _ h
          | enter f args =>
            refine Calls.mono h ?_
            intro e w'' he
            cases e with
            | returned v => exact hK _ _ he
            | panicked chain => exact absurd he.1 (by simp)
            | outgrown => exact absurd he (onlyNormal_not _)
          | row row args => exact Rows.mono h fun v w'' he => hK _ _ he
          | _ => exact h.elim
        | halt x w' =>
          cases x with
          | panic v => exact absurd h.1 (by simp)
          | _ => exact h.elim
      · exact absurd h (onlyNormal_not _)
    · simp only [hw] at h ⊢
      exact hK _ _ h
/-- Operation number j waits for every other one. -/
def sinkAt (md : Region.Mode) (ops : Array Oper) (j : Nat) : Bool := (List.range ops.size).all fun i => i == j || ((ops[j]?.map (·.after)).getD #[]).any fun e => Region.binds md e && e.on == i
theorem sinkAt_on {j i : Nat} {oj : Oper} (h : sinkAt md ops j = true) (hj : ops[j]? = some oj) (hi : i < ops.size) (hne : i ≠ j) : ∃ e ∈ oj.after, Region.binds md e = true ∧ e.on = i := by
  have h1 := List.all_eq_true.1 h i (List.mem_range.2 hi)
  simp only [hj, Option.map_some, Option.getD_some, Bool.or_eq_true, beq_iff_eq] at h1
  rcases h1 with h1 | h1
  · exact absurd h1 hne
  · obtain ⟨e, he, h2⟩ := Array.any_eq_true'.1 h1
    simp only [Bool.and_eq_true, beq_iff_eq] at h2
    exact ⟨e, he, h2.1, h2.2⟩
/-- Whichever comes up; what is held is shown behind each but one that waits for all. -/
def wpAnyS (P : Program) (md : Region.Mode) (ops : Array Oper) (Q : Exit → Act → World → Prop) (S : World → Prop) : Nat → Array Bool → Act → World → Prop
  | 0, listed, a, w => Region.ready md ops listed = [] ∧ Q .normal a w
  | f + 1, listed, a, w =>
    (Region.ready md ops listed = [] → Q .normal a w) ∧
    ∀ i ∈ Region.ready md ops listed, wpOp P ops Q i (fun a' w' => (sinkAt md ops i = false → S w') ∧ wpAnyS P md ops Q S f (listed.setIfInBounds i true) a' w') a w
theorem wpAny_of_S {Q : Exit → Act → World → Prop} : ∀ (f : Nat) (listed : Array Bool) (a : Act) (w : World), wpAnyS P md ops Q S f listed a w → wpAny P md ops Q f listed a w
  | 0, _, _, _, h => h
  | f + 1, _, _, _, h => ⟨h.1, fun i hi => wpOp_mono (fun a' w' h' => wpAny_of_S f _ a' w' h'.2) (h.2 i hi)⟩
/-- What yields the same wherever S holds may be taken first. -/
theorem wpAnyS_first {Q : Exit → Act → World → Prop} {i : Nat} {oi : Oper} {v : Value} (hi : ops[i]? = some oi) (hsel : ∀ (j : Nat) (o : Oper) cs b, ops[j]? = some o → o.op ≠ .select cs b)
    (hQ : ∀ c a w, Q (.panic c) (a.put oi.dst v) w → Q (.panic c) a w) :
    ∀ (f : Nat) (listed : Array Bool) (a : Act) (w : World),
      (∀ j oj, ops[j]? = some oj → j ≠ i → listed.getD j true = false → (∀ e ∈ oj.after, Region.binds md e = true → e.on ≠ i) → oi.apart ops oj = true) →
      i ∈ Region.ready md ops listed → YieldsIf P ops S oi v a → S w →
      wpAnyS P md ops Q S f (listed.setIfInBounds i true) (a.put oi.dst v) w → wpAnyS P md ops Q S (f + 1) listed a w := by
  have hisz : i < ops.size := (Array.getElem?_eq_some_iff.1 hi).1
  intro f
  induction f with
  | zero =>
    intro listed a w _ hr hy hS H
    refine ⟨fun h => (by rw [h] at hr; cases hr), fun j hj => ?_⟩
    by_cases hji : j = i
    · subst hji; exact hy.wpOp hi hS ⟨fun _ => hS, H⟩
    · have := ready_mono hj hji
      rw [H.1] at this
      cases this
  | succ f ih =>
    intro listed a w hfree hr hy hS H
    refine ⟨fun h => (by rw [h] at hr; cases hr), fun j hj => ?_⟩
    by_cases hji : j = i
    · subst hji; exact hy.wpOp hi hS ⟨fun _ => hS, H⟩
    · have h1 := H.2 j (ready_mono hj hji)
      obtain ⟨hjun, oj, hoj, hall⟩ := mem_ready.1 hj
      have hnot : ∀ e ∈ oj.after, Region.binds md e = true → e.on ≠ i := fun e he hb heq => by
        have h1 := hall e he hb
        rw [heq, getD_both (mem_ready.1 hr).1] at h1
        cases h1
      have hns : sinkAt md ops j = false := by
        cases hs : sinkAt md ops j with
        | false => rfl
        | true =>
          obtain ⟨e, he, hb, heq⟩ := sinkAt_on hs hoj hisz (Ne.symm hji)
          exact absurd heq (hnot e he hb)
      have h2 := wpOp_putIf hoj (hfree j oj hoj hji hjun hnot) (fun cs b => hsel i oi cs b hi) (fun cs b => hsel j oj cs b hoj) hQ hy h1
      have hfree' : ∀ k ok, ops[k]? = some ok → k ≠ i → (listed.setIfInBounds j true).getD k true = false →
          (∀ e ∈ ok.after, Region.binds md e = true → e.on ≠ i) → oi.apart ops ok = true := fun k ok hk hki hun hno => by
        refine hfree k ok hk hki ?_ hno
        by_cases hjk : j = k
        · subst hjk; exact hjun
        · rw [getD_set_ne true hjk] at hun; exact hun
      refine wpOp_mono (fun a' w' h3 => ⟨fun _ => h3.2.1 hns, ih (listed.setIfInBounds j true) a' w' hfree' (ready_mono hr (Ne.symm hji)) h3.1 (h3.2.1 hns) ?_⟩) h2
      rw [Array.setIfInBounds_comm _ _ hji]
      exact h3.2.2
/-- The rest, one after the other; what is held is shown behind each but the last. -/
def tailH (P : Program) (ops : Array Oper) (S : World → Prop) (K : Act → World → Prop) : List Oper → Act → World → Prop
  | [], a, w => K a w
  | [o], a, w => wpList P ops (OnlyNormal K) [o] a w
  | o :: o' :: rest, a, w => wpList P ops (OnlyNormal fun a' w' => S w' ∧ tailH P ops S K (o' :: rest) a' w') [o] a w
theorem wpOp_of_one {K : Act → World → Prop} {i : Nat} {o : Oper} {a : Act} {w : World} (h0 : ops[i]? = some o) (h : wpList P ops (OnlyNormal K) [o] a w) : wpOp P ops (OnlyNormal K) i (fun a' w' => OnlyNormal K .normal a' w') a w := by
  unfold wpOp; simp only [h0]; exact h
theorem wpAnyS_of_tail {K : Act → World → Prop} : ∀ (l : List Oper) (k : Nat) (listed : Array Bool) (a : Act) (w : World), (∀ j, l[j]? = ops[k + j]?) → sinkAt md ops (k + l.length - 1) = true →
    Region.seqB md ops l.length k listed = true → tailH P ops S K l a w → wpAnyS P md ops (OnlyNormal K) S l.length listed a w
  | [], _, _, _, _, _, _, hB, h => ⟨by simpa [Region.seqB] using hB, rfl, h⟩
  | [o], k, listed, a, w, hl, hsk, hB, h => by
    have h0 : ops[k]? = some o := by simpa using (hl 0).symm
    simp only [List.length_cons, List.length_nil, Region.seqB, Bool.and_eq_true, decide_eq_true_eq] at hB
    refine ⟨fun h1 => (by rw [hB.1] at h1; cases h1), fun i hi => ?_⟩
    rw [hB.1] at hi
    have hik : i = k := by simpa using hi
    subst hik
    have hsk' : sinkAt md ops i = true := by simpa using hsk
    exact wpOp_only (fun a' w' h' => ⟨fun hn => (by rw [hsk'] at hn; cases hn), by simpa [Region.seqB] using hB.2, rfl, h'.2⟩) (wpOp_of_one h0 h)
  | o :: o' :: l, k, listed, a, w, hl, hsk, hB, h => by
    have h0 : ops[k]? = some o := by simpa using (hl 0).symm
    simp only [List.length_cons, Region.seqB, Bool.and_eq_true, decide_eq_true_eq] at hB
    refine ⟨fun h1 => (by rw [hB.1] at h1; cases h1), fun i hi => ?_⟩
    rw [hB.1] at hi
    have hik : i = k := by simpa using hi
    subst hik
    refine wpOp_only (fun a' w' h' => ⟨fun _ => h'.2.1, wpAnyS_of_tail (o' :: l) (i + 1) _ a' w' (fun j => by have := hl (j + 1); simpa [Nat.add_assoc, Nat.add_comm 1 j] using this) ?_ (by simpa only [List.length_cons, Region.seqB, Bool.and_eq_true, decide_eq_true_eq] using hB.2) h'.2.2⟩) (wpOp_of_one h0 h)
    simpa [Nat.add_assoc, Nat.add_comm, Nat.add_left_comm] using hsk
theorem wpAnyS_head {K : Act → World → Prop} {g : Nat} {Lq : Act → Prop} {w : World} (hsel : Region.noSelect ops = true) (hS : S w) :
    ∀ (l : List Oper) (k : Nat) (listed : Array Bool) (a : Act), (∀ j, j < l.length → l[j]? = ops[k + j]?) → l.all headOk = true → Region.lexHead md ops g l.length k listed = true →
      (∀ listed' a', Region.seqB md ops g (k + l.length) listed' = true → Lq a' → wpAnyS P md ops (OnlyNormal K) S g listed' a' w) → wpQuiet P ops S Lq l a → wpAnyS P md ops (OnlyNormal K) S (l.length + g) listed a w
  | [], k, listed, a, _, _, hB, hL, h => by
    rw [List.length_nil, Nat.zero_add]
    exact hL _ _ (by simpa [Region.lexHead] using hB) h
  | o :: l, k, listed, a, hl, hk, hB, hL, h => by
    have h0 : ops[k]? = some o := by simpa using (hl 0 (by simp)).symm
    simp only [List.length_cons, Region.lexHead, Bool.and_eq_true] at hB
    obtain ⟨⟨hr, hf⟩, hB'⟩ := hB
    simp only [List.all_cons, Bool.and_eq_true] at hk
    have hst : qOp P ops S k (wpQuiet P ops S Lq l) a := by unfold qOp; simp only [h0]; exact h
    obtain ⟨v, hy, hK⟩ := yieldsIn_of_qOp h0 hst
    rw [List.length_cons, show l.length + 1 + g = (l.length + g) + 1 by omega]
    refine wpAnyS_first h0 (Region.noSelect_spec hsel) (fun c a w h => absurd h.1 (by simp)) _ _ _ _ (Region.free_spec h0 hf) (by simpa using hr) (yieldsIf_of hk.1 hy) hS ?_
    exact wpAnyS_head hsel hS l (k + 1) _ _ (fun j hj => by have := hl (j + 1) (by simp; omega); simpa [Nat.add_assoc, Nat.add_comm 1 j] using this) hk.2 hB'
      (fun listed' a' hs hq => hL listed' a' (by rw [List.length_cons, show k + (l.length + 1) = k + 1 + l.length by omega]; exact hs) hq) hK
def heldTailB (l : List Oper) (n : Nat) : Bool := noDefer l && Region.noSelect l.toArray && decide (n < l.length) && (l.take n).all headOk && sinkAt .any l.toArray (l.length - 1) && Region.lexHead .any l.toArray (l.length - n) n 0 (Array.replicate l.length false)
theorem any_held_tail {K : Act → World → Prop} {a : Act} {w : World} {l : List Oper} (n : Nat) (hB : heldTailB l n = true) (hS : S w.drew)
    (h : wpQuiet P l.toArray S (fun a' => tailH P l.toArray S K (l.drop n) a' w.drew) (l.take n) a) : wpAny P .any l.toArray (OnlyNormal K) l.toArray.size (Array.replicate l.toArray.size false) a w.drew := by
  simp only [heldTailB, Bool.and_eq_true, decide_eq_true_eq] at hB
  obtain ⟨⟨⟨⟨⟨hd, hsel⟩, hn⟩, hk⟩, hsk⟩, hlex⟩ := hB
  have htl : (l.take n).length = n := by simp; omega
  have hdl : (l.drop n).length = l.length - n := by simp
  refine wpAny_of_S (S := S) _ _ _ _ ?_
  have := wpAnyS_head (md := .any) (K := K) (g := l.length - n) (w := w.drew) hsel hS (l.take n) 0 (Array.replicate l.length false) a (fun j hj => by
    have hj' : j < n := by rw [htl] at hj; exact hj
    simp [hj']) hk (by rw [htl]; exact hlex) (fun listed' a' hs hq => by
      have := wpAnyS_of_tail (md := .any) (l.drop n) n listed' a' w.drew (fun j => by simp [List.getElem?_drop]) (by rw [hdl, show n + (l.length - n) - 1 = l.length - 1 by omega]; exact hsk) (by rw [hdl]; rw [htl, Nat.zero_add] at hs; exact hs) hq
      rwa [hdl] at this) h
  rw [htl, show n + (l.length - n) = l.length by omega] at this
  simpa using this
theorem wpIn_round_held {id lp m : Nat} {Q : Exit → Act → World → Prop} {a : Act} {w : World} {l : List Oper} (S : World → Prop) (n : Nat) (hm : P.follows .mixedOrders = true) (hB : heldTailB l n = true) (hS : S w.drew)
    (h : wpQuiet P l.toArray S (fun a' => tailH P l.toArray S (Q .normal) (l.drop n) a' w.drew) (l.take n) a) : (Code.region id l.toArray true).wpIn (Fence.wide.inRound lp) m P Q a w :=
  wpIn_region_any hm (wpAnyIn_of_wpAny (noDefer_spec (by simp only [heldTailB, Bool.and_eq_true] at hB; exact hB.1.1.1.1.1)) (fun _ _ h => h) _ _ _ _ (any_held_tail n hB hS h))
/-- The same outside a round. -/
theorem wp_region_held_tail {id : Nat} {Q : Exit → Act → World → Prop} {a : Act} {w : World} {l : List Oper} (S : World → Prop) (n : Nat) (hm : P.follows .mixedOrders = true) (hB : heldTailB l n = true) (hS : S w.drew)
    (h : wpQuiet P l.toArray S (fun a' => tailH P l.toArray S (Q .normal) (l.drop n) a' w.drew) (l.take n) a) : (Code.region id l.toArray true).wp P Q a w :=
  Code.wp_mono (fun e a w h => by obtain ⟨rfl, h⟩ := h; exact h) (wp_region_any (Q := OnlyNormal (Q .normal)) hm (any_held_tail n hB hS h))
theorem class_eq (S : World → Prop) : (fun w' => ∃ i : {w' : World // S w'}, w' = i.1) = S := by
  funext w'
  exact propext ⟨by rintro ⟨i, rfl⟩; exact i.2, fun h => ⟨⟨w', h⟩, rfl⟩⟩
/-- What is held said of a family of worlds (so that the cells' facts are rules). -/
theorem wpIn_round_held_fam {id lp m : Nat} {Q : Exit → Act → World → Prop} {a : Act} {w : World} {l : List Oper} (S : World → Prop) (n : Nat) (hm : P.follows .mixedOrders = true) (hB : heldTailB l n = true) (hS : S w.drew)
    (h : ∀ (I : Type) (_ : Nonempty I) (F : I → World), (∀ i, S (F i)) → wpQuiet P l.toArray (fun w' => ∃ i, w' = F i) (fun a' => tailH P l.toArray S (Q .normal) (l.drop n) a' w.drew) (l.take n) a) : (Code.region id l.toArray true).wpIn (Fence.wide.inRound lp) m P Q a w := by
  refine wpIn_round_held S n hm hB hS ?_
  have := h {w' : World // S w'} ⟨⟨w.drew, hS⟩⟩ (fun i => i.1) (fun i => i.2)
  rwa [class_eq S] at this
theorem wp_region_held_fam {id : Nat} {Q : Exit → Act → World → Prop} {a : Act} {w : World} {l : List Oper} (S : World → Prop) (n : Nat) (hm : P.follows .mixedOrders = true) (hB : heldTailB l n = true) (hS : S w.drew)
    (h : ∀ (I : Type) (_ : Nonempty I) (F : I → World), (∀ i, S (F i)) → wpQuiet P l.toArray (fun w' => ∃ i, w' = F i) (fun a' => tailH P l.toArray S (Q .normal) (l.drop n) a' w.drew) (l.take n) a) : (Code.region id l.toArray true).wp P Q a w := by
  refine wp_region_held_tail S n hm hB hS ?_
  have := h {w' : World // S w'} ⟨⟨w.drew, hS⟩⟩ (fun i => i.1) (fun i => i.2)
  rwa [class_eq S] at this
end
end Go.Proofs.YtplcjgpmainbnaaDoor.QTail
