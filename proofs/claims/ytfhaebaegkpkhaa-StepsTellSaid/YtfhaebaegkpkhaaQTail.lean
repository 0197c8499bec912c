/- A region that draws its order, whose operations and calls only read up to a forced tail (a store, an append ..): one walk in the order of the text, then the tail. · A region that draws its order, quiet up to a forced tail, in a round of a range over a function: walked as outside. · A region that draws its order, in a round of a range over a function: reads whose cells nobody in the region writes are taken first; then the rest, one after the other. · From any point of a region that draws its order: reads are taken first where they come up; else the one operation that may come up. · As XQMix; what is held (S) is asked for by some numbers only, and let go behind an operation that waits for all of those. -/
import Derived.StillTail
import Derived.Deep.Quiet
import Derived.Below
import Derived.Tactics
import Derived.OrdersIn
import Derived.RangeFuncCalls
import Derived.OrdersHeld
set_option linter.unusedVariables false
set_option linter.unusedSimpArgs false
namespace Go.Proofs.Ytfhaebaegkpkhaa.QTail
open Go
section
variable {P : Program} {ops : Array Oper} {md : Region.Mode} {C : World → Prop}
def wpAnyLQ (P : Program) (md : Region.Mode) (ops : Array Oper) (C : World → Prop) (n : Nat) (L : Array Bool → Act → Prop) : Nat → Array Bool → Act → Prop
  | 0, listed, a => L listed a
  | f + 1, listed, a =>
    Region.ready md ops listed ≠ [] ∧ ∀ i ∈ Region.ready md ops listed, i < n ∧ qOp P ops C i (wpAnyLQ P md ops C n L f (listed.setIfInBounds i true)) a

theorem wpAny_of_headQ {n g : Nat} {L : Array Bool → Act → Prop} {Q' : Exit → Act → World → Prop} (hL : ∀ listed a w, C w → L listed a → wpAny P md ops Q' g listed a w) :
    ∀ (f : Nat) (listed : Array Bool) (a : Act) (w : World), C w → wpAnyLQ P md ops C n L f listed a → wpAny P md ops Q' (f + g) listed a w
  | 0, listed, a, w, hw, h => by rw [Nat.zero_add]; exact hL _ _ _ hw h
  | f + 1, listed, a, w, hw, h => by
    rw [show f + 1 + g = (f + g) + 1 by omega]
    exact ⟨fun h0 => absurd h0 h.1, fun i hi => wpOp_of_qOp hw (fun a' w' hw' h' => wpAny_of_headQ hL f _ a' w' hw' h') (h.2 i hi).2⟩

theorem wpAnyLQ_first {n i : Nat} {oi : Oper} {v : Value} {L : Array Bool → Act → Prop} (hi : ops[i]? = some oi) (hsel : ∀ (j : Nat) (o : Oper) cs b, ops[j]? = some o → o.op ≠ .select cs b)
    (hs : Region.sinkB md ops n = true) (hc : Region.chainB md ops n = true) (hn : n < ops.size) (hin : i < n)
    (hdone : ∀ listed a, L listed a → ∀ j ∈ Region.ready md ops listed, n ≤ j) :
    ∀ (f : Nat) (listed : Array Bool) (a : Act), HeadInv md ops n listed →
      (∀ j oj, ops[j]? = some oj → j ≠ i → listed.getD j true = false → (∀ e ∈ oj.after, Region.binds md e = true → e.on ≠ i) → oi.apart ops oj = true) →
      i ∈ Region.ready md ops listed → YieldsIn P ops C oi v a →
      wpAnyLQ P md ops C n L f (listed.setIfInBounds i true) (a.put oi.dst v) → wpAnyLQ P md ops C n L (f + 1) listed a := by
  intro f
  induction f with
  | zero =>
    intro listed a inv _ hr hy H
    have hun := (mem_ready.1 hr).1
    refine ⟨fun h => (by rw [h] at hr; cases hr), fun j hj => ?_⟩
    have hjn : j < n := by
      rcases Nat.lt_or_ge j n with h | h
      · exact h
      · exact absurd hj (tail_waits hs hc hn inv _ i rfl hin hun j h)
    refine ⟨hjn, ?_⟩
    by_cases hji : j = i
    · subst hji; exact hy.qOp hi H
    · have := hdone _ _ H j (ready_mono hj hji)
      omega
  | succ f ih =>
    intro listed a inv hfree hr hy H
    have hun := (mem_ready.1 hr).1
    refine ⟨fun h => (by rw [h] at hr; cases hr), fun j hj => ?_⟩
    have hjn : j < n := by
      rcases Nat.lt_or_ge j n with h | h
      · exact h
      · exact absurd hj (tail_waits hs hc hn inv _ i rfl hin hun j h)
    refine ⟨hjn, ?_⟩
    by_cases hji : j = i
    · subst hji; exact hy.qOp hi H
    · have h1 := (H.2 j (ready_mono hj hji)).2
      obtain ⟨hjun, oj, hoj, hall⟩ := mem_ready.1 hj
      have hnot : ∀ e ∈ oj.after, Region.binds md e = true → e.on ≠ i := fun e he hb heq => by
        have h1 := hall e he hb
        rw [heq, getD_both hun] at h1
        cases h1
      have h2 := qOp_put hoj (hfree j oj hoj hji hjun hnot) (fun cs b => hsel i oi cs b hi) (fun cs b => hsel j oj cs b hoj) hy h1
      have hfree' : ∀ k ok, ops[k]? = some ok → k ≠ i → (listed.setIfInBounds j true).getD k true = false →
          (∀ e ∈ ok.after, Region.binds md e = true → e.on ≠ i) → oi.apart ops ok = true := fun k ok hk hki hun hno => by
        refine hfree k ok hk hki ?_ hno
        by_cases hjk : j = k
        · subst hjk; exact hjun
        · rw [getD_set_ne true hjk] at hun; exact hun
      refine qOp_mono (fun a' h3 => ih (listed.setIfInBounds j true) a' (inv.set hj hjn) hfree' (ready_mono hr (Ne.symm hji)) h3.1 ?_) h2
      rw [Array.setIfInBounds_comm _ _ hji]
      exact h3.2

theorem wpAnyLQ_lex {n g : Nat} {Lq : Act → Prop} (hsel : Region.noSelect ops = true) (hs : Region.sinkB md ops n = true) (hc : Region.chainB md ops n = true) (hn : n < ops.size) :
    ∀ (l : List Oper) (k : Nat) (listed : Array Bool) (a : Act), (∀ j, j < l.length → l[j]? = ops[k + j]?) → k + l.length = n → HeadInv md ops n listed →
    Region.lexHead md ops g l.length k listed = true → wpQuiet P ops C Lq l a →
    wpAnyLQ P md ops C n (fun listed' a' => Region.seqB md ops g n listed' = true ∧ Lq a') l.length listed a
  | [], k, listed, a, _, hk, _, hB, h => by
    have : k = n := by simpa using hk
    subst this
    exact ⟨by simpa [Region.lexHead] using hB, h⟩
  | o :: l, k, listed, a, hl, hk, inv, hB, h => by
    have h0 : ops[k]? = some o := by simpa using (hl 0 (by simp)).symm
    simp only [List.length_cons, Region.lexHead, Bool.and_eq_true] at hB
    obtain ⟨⟨hr, hf⟩, hB'⟩ := hB
    have hkn : k < n := by simp only [List.length_cons] at hk; omega
    have hr' : k ∈ Region.ready md ops listed := by simpa using hr
    have hst : qOp P ops C k (wpQuiet P ops C Lq l) a := by unfold qOp; simp only [h0]; exact h
    obtain ⟨v, hy, hK⟩ := yieldsIn_of_qOp h0 hst
    exact wpAnyLQ_first h0 (Region.noSelect_spec hsel) hs hc hn hkn (fun listed' a' hL => seqB_ready hL.1) l.length listed a inv (Region.free_spec h0 hf) hr' hy
      (wpAnyLQ_lex hsel hs hc hn l (k + 1) _ _ (fun j hj => by have := hl (j + 1) (by simp; omega); simpa [Nat.add_assoc, Nat.add_comm 1 j] using this) (by simp only [List.length_cons] at hk; omega) (inv.set hr' hkn) hB' hK)

/-- The law: quiet up to number n, then the tail, in every world of the class. -/
theorem wp_region_quiet_tail {id : Nat} {Q : Exit → Act → World → Prop} {a : Act} {w : World} {l : List Oper} (n : Nat) (hm : P.follows .mixedOrders = true) (hB : Region.lexTailB .any l.toArray n = true) (hC : C { w with drawn := w.drawn + 1 })
    (h : wpQuiet P l.toArray C (fun a' => ∀ w', C w' → wpList P l.toArray Q (l.drop n) a' w') (l.take n) a) : (Code.region id l.toArray true).wp P Q a w := by
  simp only [Region.lexTailB, Bool.and_eq_true, decide_eq_true_eq] at hB
  obtain ⟨⟨⟨⟨hsel, hn⟩, hs⟩, hc⟩, hlex⟩ := hB
  have hn' : n < l.length := by simpa using hn
  have htl : (l.take n).length = n := by simp; omega
  have hdl : (l.drop n).length = l.toArray.size - n := by simp
  have inv0 : HeadInv .any l.toArray n (Array.replicate l.toArray.size false) :=
    ⟨by simp, fun j oj _ hl => (by rw [getD_replicate_false] at hl; cases hl), fun t _ ht => getD_in (by simpa using ht) (getD_replicate_false _ _)⟩
  have H := wpAnyLQ_lex (md := .any) (g := l.toArray.size - n) hsel hs hc hn (l.take n) 0 _ a (fun j hj => by
    have hj' : j < n := by rw [htl] at hj; exact hj
    simp [hj']) (by simpa using htl) inv0 (by rw [htl]; exact hlex) h
  refine wp_region_any hm ?_
  have := wpAny_of_headQ (Q' := Q) (g := l.toArray.size - n) (fun listed a' w' hw' hL => by
    have := wpAny_of_seq (md := .any) (Q' := Q) (l.drop n) n listed a' w' (fun j => by simp [List.getElem?_drop]) (by rw [hdl]; exact hL.1) (hL.2 w' hw')
    rwa [hdl] at this) _ _ _ _ hC H
  rw [htl, show n + (l.toArray.size - n) = l.toArray.size by omega] at this
  exact this
/-- The class: the world after some draws. -/
theorem wp_region_quiet_tail_lit {id : Nat} {Q : Exit → Act → World → Prop} {a : Act} {w : World} {l : List Oper} (n : Nat) (hm : P.follows .mixedOrders = true) (hB : Region.lexTailB .any l.toArray n = true)
    (h : wpQuiet P l.toArray (fun w' => ∃ n, w' = w.drewN n) (fun a' => ∀ w', (∃ n, w' = w.drewN n) → wpList P l.toArray Q (l.drop n) a' w') (l.take n) a) : (Code.region id l.toArray true).wp P Q a w :=
  wp_region_quiet_tail (C := fun w' => ∃ n, w' = w.drewN n) n hm hB ⟨1, rfl⟩ h
/-- The class: the worlds in which all blocks below number B are as they were (calls that make memory, and answer by value). -/
theorem wp_region_below_tail {id : Nat} {Q : Exit → Act → World → Prop} {a : Act} {w : World} {l : List Oper} (n B : Nat) (hm : P.follows .mixedOrders = true) (hB : Region.lexTailB .any l.toArray n = true)
    (h : ∀ (I : Type) (_ : Nonempty I) (F : I → World), (∀ i, RowKit.Below B w (F i)) → (∀ w', RowKit.Below B w w' → ∃ i, w' = F i) →
      wpQuiet P l.toArray (fun w' => ∃ i, w' = F i) (fun a' => ∀ w', (∃ i, w' = F i) → wpList P l.toArray Q (l.drop n) a' w') (l.take n) a) : (Code.region id l.toArray true).wp P Q a w :=
  wp_region_quiet_tail (C := fun w' => ∃ i : {w' : World // RowKit.Below B w w'}, w' = i.1) n hm hB ⟨⟨_, (RowKit.Below.refl B w).drew⟩, rfl⟩
    (h {w' : World // RowKit.Below B w w'} ⟨⟨w, RowKit.Below.refl B w⟩⟩ (fun i => i.1) (fun i => i.2) (fun w' hw => ⟨⟨w', hw⟩, rfl⟩))
theorem wp_region_below {id : Nat} {Q : Exit → Act → World → Prop} {a : Act} {w : World} {l : List Oper} (B : Nat) (hm : P.follows .mixedOrders = true) (hB : Region.lexB .any l.toArray = true)
    (h : ∀ (I : Type) (_ : Nonempty I) (F : I → World), (∀ i, RowKit.Below B w (F i)) → (∀ w', RowKit.Below B w w' → ∃ i, w' = F i) →
      wpQuiet P l.toArray (fun w' => ∃ i, w' = F i) (fun a' => ∀ w', (∃ i, w' = F i) → Q .normal a' w') l a) : (Code.region id l.toArray true).wp P Q a w :=
  wp_region_quiet (C := fun w' => ∃ i : {w' : World // RowKit.Below B w w'}, w' = i.1) hm hB ⟨⟨_, (RowKit.Below.refl B w).drew⟩, rfl⟩
    (by simpa using h {w' : World // RowKit.Below B w w'} ⟨⟨w, RowKit.Below.refl B w⟩⟩ (fun i => i.1) (fun i => i.2) (fun w' hw => ⟨⟨w', hw⟩, rfl⟩))
end
end Go.Proofs.Ytfhaebaegkpkhaa.QTail
set_option linter.unusedVariables false
set_option linter.unusedSimpArgs false
namespace Go.Proofs.Ytfhaebaegkpkhaa.QTail
open Go
section
variable {P : Program} {ops : Array Oper} {md : Region.Mode} {C : World → Prop}
theorem callsIn_round {l n : Nat} {f : FuncId} {args : Array Value} {w : World} {R : Ending → World → Prop} : CallsIn (Fence.wide.inRound l) n P f args w R ↔ Calls P f args w R := callsIn_wide
theorem rowsIn_round {l n : Nat} {row : String} {args : Array Value} {w : World} {R : Value → World → Prop} (h : Rows P row args w R) : RowsIn (Fence.wide.inRound l) n P row args w R := fun c cs _ =>
  let ⟨v, w', r, s⟩ := h c cs
  ⟨v, w', r, stepsIn_wide.2 s⟩
/-- Only the normal end counts. -/
def OnlyNormal (K : Act → World → Prop) : Exit → Act → World → Prop := fun e a w => e = .normal ∧ K a w
theorem onlyNormal_not (K : Act → World → Prop) : ¬ LetsOut (OnlyNormal K) := fun ⟨_, _, h, _⟩ => by cases h
theorem wpOpIn_of_wpOp {l n i : Nat} {K K' R : Act → World → Prop} {Q : Exit → Act → World → Prop} {a : Act} {w : World} (hd : ∀ (j : Nat) (o : Oper) c, ops[j]? = some o → o.op ≠ .defer c) (hK : ∀ a w, K a w → K' a w)
    (h : wpOp P ops (OnlyNormal R) i K a w) : wpOpIn (Fence.wide.inRound l) n P ops Q i K' a w := by
  unfold wpOp at h
  unfold wpOpIn
  cases ho : ops[i]? with
  | none => simp only [ho] at h ⊢; exact hK _ _ h
  | some o =>
    simp only [ho] at h ⊢
    by_cases hw : Region.wanted o (yielded ops a.tmps) = true
    · simp only [hw, if_true] at h ⊢
      rcases h with h | ⟨_, h⟩
      · refine ⟨fun _ _ => trivial, ?_⟩
        have hs : o.semAt (Fence.wide.inRound l).round a.eval = execOp a.eval o := Oper.semAt_eq _ _ _ (fun c => hd i o c ho)
        rw [hs]
        unfold Oper.wp at h
        generalize (execOp a.eval o).run P w = r at h
        cases r with
        | ok x w' =>
          cases x with
          | value v => exact hK _ _ h
          | skip => exact hK _ _ h
          | defer d => exact hK _ _ h
          | enter f args =>
            refine ⟨fun h => (by cases h), callsIn_round.2 (Calls.mono h ?_)⟩
            intro e w'' he
            cases e with
            | returned v => exact hK _ _ he
            | panicked chain => exact absurd he.1 (by simp)
            | outgrown => exact absurd he (onlyNormal_not _)
          | row row args => exact ⟨fun h => (by cases h), rowsIn_round (Rows.mono h fun v w'' he => hK _ _ he)⟩
          | _ => exact h.elim
        | halt x w' =>
          cases x with
          | panic v => exact absurd h.1 (by simp)
          | _ => exact h.elim
      · exact absurd h (onlyNormal_not _)
    · simp only [hw] at h ⊢
      exact ⟨fun _ _ => trivial, hK _ _ h⟩
theorem wpAnyIn_of_wpAny {l n : Nat} {R : Act → World → Prop} {Q : Exit → Act → World → Prop} (hd : ∀ (j : Nat) (o : Oper) c, ops[j]? = some o → o.op ≠ .defer c) (hQ : ∀ a w, R a w → Q .normal a w) :
    ∀ (f : Nat) (listed : Array Bool) (a : Act) (w : World), wpAny P md ops (OnlyNormal R) f listed a w → wpAnyIn (Fence.wide.inRound l) n P md ops Q f listed a w
  | 0, _, _, _, h => ⟨h.1, hQ _ _ h.2.2⟩
  | f + 1, _, _, _, h => ⟨fun h0 => hQ _ _ (h.1 h0).2, fun i hi => wpOpIn_of_wpOp hd (fun a' w' h' => wpAnyIn_of_wpAny hd hQ f _ a' w' h') (h.2 i hi)⟩
def noDefer (ops : List Oper) : Bool := ops.all fun o => match o.op with | .defer _ => false | _ => true
theorem noDefer_spec {l : List Oper} (h : noDefer l = true) : ∀ (j : Nat) (o : Oper) c, l.toArray[j]? = some o → o.op ≠ .defer c := fun j o c ho hc => by
  have hm : o ∈ l := List.mem_of_getElem? (by simpa using ho)
  have := List.all_eq_true.1 h o hm
  rw [hc] at this
  cases this
theorem any_quiet_tail {Q : Exit → Act → World → Prop} {a : Act} {w : World} {l : List Oper} (n : Nat) (hB : Region.lexTailB .any l.toArray n = true) (hC : C { w with drawn := w.drawn + 1 })
    (h : wpQuiet P l.toArray C (fun a' => ∀ w', C w' → wpList P l.toArray Q (l.drop n) a' w') (l.take n) a) : wpAny P .any l.toArray Q l.toArray.size (Array.replicate l.toArray.size false) a { w with drawn := w.drawn + 1 } := by
  simp only [Region.lexTailB, Bool.and_eq_true, decide_eq_true_eq] at hB
  obtain ⟨⟨⟨⟨hsel, hn⟩, hs⟩, hc⟩, hlex⟩ := hB
  have hn' : n < l.length := by simpa using hn
  have htl : (l.take n).length = n := by simp; omega
  have hdl : (l.drop n).length = l.toArray.size - n := by simp
  have inv0 : HeadInv .any l.toArray n (Array.replicate l.toArray.size false) :=
    ⟨by simp, fun j oj _ hl => (by rw [getD_replicate_false] at hl; cases hl), fun t _ ht => getD_in (by simpa using ht) (getD_replicate_false _ _)⟩
  have H := wpAnyLQ_lex (md := .any) (g := l.toArray.size - n) hsel hs hc hn (l.take n) 0 _ a (fun j hj => by
    have hj' : j < n := by rw [htl] at hj; exact hj
    simp [hj']) (by simpa using htl) inv0 (by rw [htl]; exact hlex) h
  have := wpAny_of_headQ (Q' := Q) (g := l.toArray.size - n) (fun listed a' w' hw' hL => by
    have := wpAny_of_seq (md := .any) (Q' := Q) (l.drop n) n listed a' w' (fun j => by simp [List.getElem?_drop]) (by rw [hdl]; exact hL.1) (hL.2 w' hw')
    rwa [hdl] at this) _ _ _ _ hC H
  rw [htl, show n + (l.toArray.size - n) = l.toArray.size by omega] at this
  exact this
/-- In a round: the head quiet among calls that answer by value, then the tail. -/
theorem wpIn_round_below_tail {id lp m : Nat} {Q : Exit → Act → World → Prop} {a : Act} {w : World} {l : List Oper} (n B : Nat) (hm : P.follows .mixedOrders = true) (hd : noDefer l = true) (hB : Region.lexTailB .any l.toArray n = true)
    (h : ∀ (I : Type) (_ : Nonempty I) (F : I → World), (∀ i, RowKit.Below B w (F i)) → (∀ w', RowKit.Below B w w' → ∃ i, w' = F i) →
      wpQuiet P l.toArray (fun w' => ∃ i, w' = F i) (fun a' => ∀ w', (∃ i, w' = F i) → wpList P l.toArray (OnlyNormal (Q .normal)) (l.drop n) a' w') (l.take n) a) : (Code.region id l.toArray true).wpIn (Fence.wide.inRound lp) m P Q a w :=
  wpIn_region_any hm (wpAnyIn_of_wpAny (noDefer_spec hd) (fun _ _ h => h) _ _ _ _
    (any_quiet_tail (C := fun w' => ∃ i : {w' : World // RowKit.Below B w w'}, w' = i.1) n hB ⟨⟨_, (RowKit.Below.refl B w).drew⟩, rfl⟩
      (h {w' : World // RowKit.Below B w w'} ⟨⟨w, RowKit.Below.refl B w⟩⟩ (fun i => i.1) (fun i => i.2) (fun w' hw => ⟨⟨w', hw⟩, rfl⟩))))
end
end Go.Proofs.Ytfhaebaegkpkhaa.QTail
set_option linter.unusedVariables false
set_option linter.unusedSimpArgs false
namespace Go.Proofs.Ytfhaebaegkpkhaa.QTail
open Go
section
variable {P : Program} {ops : Array Oper} {md : Region.Mode} {S : World → Prop}
/-- An operation that, where it comes to an end, has a value and calls nobody. -/
def headOk (o : Oper) : Bool := match o.op with
  | .move _ | .assign _ | .load _ _ | .fieldAddr _ _ _ | .indexAddr _ _ _ | .slice _ _ _ _ _ | .binOp _ _ _ _ _ => true
  | _ => false
theorem valued {m : Sem Value} {w w' : World} {x : Next} (h : (do pure (Next.value (← m)) : Sem Next).run P w = .ok x w') : ∃ v, x = .value v := by
  simp only [Sem.run_bind] at h
  cases hm : m.run P w with
  | ok v w1 =>
    rw [hm] at h
    simp only [Result.andThen_ok, Sem.run_pure] at h
    injection h with h1 h2
    exact ⟨v, h1.symm⟩
  | halt x w1 => rw [hm] at h; cases h
theorem headOk_value {o : Oper} (h : headOk o = true) {ρ : Operand → Value} {w w' : World} {x : Next} (hr : (execOp ρ o).run P w = .ok x w') : ∃ v, x = .value v := by
  unfold headOk at h
  unfold execOp at hr
  cases ho : o.op <;> rw [ho] at h <;> first | (cases h; done) | (simp only [ho] at hr; first | exact valued hr | (simp only [Sem.run_pure] at hr; injection hr with h1 h2; exact ⟨_, h1.symm⟩))
theorem yieldsIf_of {o : Oper} {v : Value} {a : Act} (hk : headOk o = true) (h : YieldsIn P ops S o v a) : YieldsIf P ops S o v a := by
  rcases h with ⟨hw, hv⟩ | ⟨hw, rfl⟩
  · refine .inl ⟨hw, fun w hS => ?_⟩
    have h1 := hv w hS
    unfold Oper.quietAt at h1
    cases hr : (execOp a.eval o).run P w with
    | ok x w' =>
      obtain ⟨u, rfl⟩ := headOk_value hk hr
      rw [hr] at h1
      obtain ⟨rfl, rfl⟩ := h1
      rfl
    | halt x w' => rw [hr] at h1; exact h1.elim
  · exact .inr ⟨hw, rfl⟩
theorem wpOp_only {i : Nat} {R R' K K' : Act → World → Prop} {a : Act} {w : World} (hK : ∀ a w, K a w → K' a w) (h : wpOp P ops (OnlyNormal R) i K a w) : wpOp P ops (OnlyNormal R') i K' a w := by
  unfold wpOp at *
  cases ho : ops[i]? with
  | none => simp only [ho] at h ⊢; exact hK _ _ h
  | some o =>
    simp only [ho] at h ⊢
    by_cases hw : Region.wanted o (yielded ops a.tmps) = true
    · simp only [hw, if_true] at h ⊢
      rcases h with h | ⟨_, h⟩
      · refine .inl ?_
        unfold Oper.wp at *
        generalize (execOp a.eval o).run P w = r at *
        cases r with
        | ok x w' =>
          cases x with
          | value v => exact hK _ _ h
          | skip => exact hK _ _ h
          | defer d => exact hK _ _ h
          | enter f args =>
            refine Calls.mono h ?_
            intro e w'' he
            cases e with
            | returned v => exact hK _ _ he
            | panicked chain => exact absurd he.1 (by simp)
            | outgrown => exact absurd he (onlyNormal_not _)
          | row row args => exact Rows.mono h fun v w'' he => hK _ _ he
          | _ => exact h.elim
        | halt x w' =>
          cases x with
          | panic v => exact absurd h.1 (by simp)
          | _ => exact h.elim
      · exact absurd h (onlyNormal_not _)
    · simp only [hw] at h ⊢
      exact hK _ _ h
/-- Operation number j waits for every other one. -/
def sinkAt (md : Region.Mode) (ops : Array Oper) (j : Nat) : Bool := (List.range ops.size).all fun i => i == j || ((ops[j]?.map (·.after)).getD #[]).any fun e => Region.binds md e && e.on == i
theorem sinkAt_on {j i : Nat} {oj : Oper} (h : sinkAt md ops j = true) (hj : ops[j]? = some oj) (hi : i < ops.size) (hne : i ≠ j) : ∃ e ∈ oj.after, Region.binds md e = true ∧ e.on = i := by
  have h1 := List.all_eq_true.1 h i (List.mem_range.2 hi)
  simp only [hj, Option.map_some, Option.getD_some, Bool.or_eq_true, beq_iff_eq] at h1
  rcases h1 with h1 | h1
  · exact absurd h1 hne
  · obtain ⟨e, he, h2⟩ := Array.any_eq_true'.1 h1
    simp only [Bool.and_eq_true, beq_iff_eq] at h2
    exact ⟨e, he, h2.1, h2.2⟩
/-- Whichever comes up; what is held is shown behind each but one that waits for all. -/
def wpAnyS (P : Program) (md : Region.Mode) (ops : Array Oper) (Q : Exit → Act → World → Prop) (S : World → Prop) : Nat → Array Bool → Act → World → Prop
  | 0, listed, a, w => Region.ready md ops listed = [] ∧ Q .normal a w
  | f + 1, listed, a, w =>
    (Region.ready md ops listed = [] → Q .normal a w) ∧
    ∀ i ∈ Region.ready md ops listed, wpOp P ops Q i (fun a' w' => (sinkAt md ops i = false → S w') ∧ wpAnyS P md ops Q S f (listed.setIfInBounds i true) a' w') a w
theorem wpAny_of_S {Q : Exit → Act → World → Prop} : ∀ (f : Nat) (listed : Array Bool) (a : Act) (w : World), wpAnyS P md ops Q S f listed a w → wpAny P md ops Q f listed a w
  | 0, _, _, _, h => h
  | f + 1, _, _, _, h => ⟨h.1, fun i hi => wpOp_mono (fun a' w' h' => wpAny_of_S f _ a' w' h'.2) (h.2 i hi)⟩
/-- What yields the same wherever S holds may be taken first. -/
theorem wpAnyS_first {Q : Exit → Act → World → Prop} {i : Nat} {oi : Oper} {v : Value} (hi : ops[i]? = some oi) (hsel : ∀ (j : Nat) (o : Oper) cs b, ops[j]? = some o → o.op ≠ .select cs b)
    (hQ : ∀ c a w, Q (.panic c) (a.put oi.dst v) w → Q (.panic c) a w) :
    ∀ (f : Nat) (listed : Array Bool) (a : Act) (w : World),
      (∀ j oj, ops[j]? = some oj → j ≠ i → listed.getD j true = false → (∀ e ∈ oj.after, Region.binds md e = true → e.on ≠ i) → oi.apart ops oj = true) →
      i ∈ Region.ready md ops listed → YieldsIf P ops S oi v a → S w →
      wpAnyS P md ops Q S f (listed.setIfInBounds i true) (a.put oi.dst v) w → wpAnyS P md ops Q S (f + 1) listed a w := by
  have hisz : i < ops.size := (Array.getElem?_eq_some_iff.1 hi).1
  intro f
  induction f with
  | zero =>
    intro listed a w _ hr hy hS H
    refine ⟨fun h => (by rw [h] at hr; cases hr), fun j hj => ?_⟩
    by_cases hji : j = i
    · subst hji; exact hy.wpOp hi hS ⟨fun _ => hS, H⟩
    · have := ready_mono hj hji
      rw [H.1] at this
      cases this
  | succ f ih =>
    intro listed a w hfree hr hy hS H
    refine ⟨fun h => (by rw [h] at hr; cases hr), fun j hj => ?_⟩
    by_cases hji : j = i
    · subst hji; exact hy.wpOp hi hS ⟨fun _ => hS, H⟩
    · have h1 := H.2 j (ready_mono hj hji)
      obtain ⟨hjun, oj, hoj, hall⟩ := mem_ready.1 hj
      have hnot : ∀ e ∈ oj.after, Region.binds md e = true → e.on ≠ i := fun e he hb heq => by
        have h1 := hall e he hb
        rw [heq, getD_both (mem_ready.1 hr).1] at h1
        cases h1
      have hns : sinkAt md ops j = false := by
        cases hs : sinkAt md ops j with
        | false => rfl
        | true =>
          obtain ⟨e, he, hb, heq⟩ := sinkAt_on hs hoj hisz (Ne.symm hji)
          exact absurd heq (hnot e he hb)
      have h2 := wpOp_putIf hoj (hfree j oj hoj hji hjun hnot) (fun cs b => hsel i oi cs b hi) (fun cs b => hsel j oj cs b hoj) hQ hy h1
      have hfree' : ∀ k ok, ops[k]? = some ok → k ≠ i → (listed.setIfInBounds j true).getD k true = false →
          (∀ e ∈ ok.after, Region.binds md e = true → e.on ≠ i) → oi.apart ops ok = true := fun k ok hk hki hun hno => by
        refine hfree k ok hk hki ?_ hno
        by_cases hjk : j = k
        · subst hjk; exact hjun
        · rw [getD_set_ne true hjk] at hun; exact hun
      refine wpOp_mono (fun a' w' h3 => ⟨fun _ => h3.2.1 hns, ih (listed.setIfInBounds j true) a' w' hfree' (ready_mono hr (Ne.symm hji)) h3.1 (h3.2.1 hns) ?_⟩) h2
      rw [Array.setIfInBounds_comm _ _ hji]
      exact h3.2.2
/-- The rest, one after the other; what is held is shown behind each but the last. -/
def tailH (P : Program) (ops : Array Oper) (S : World → Prop) (K : Act → World → Prop) : List Oper → Act → World → Prop
  | [], a, w => K a w
  | [o], a, w => wpList P ops (OnlyNormal K) [o] a w
  | o :: o' :: rest, a, w => wpList P ops (OnlyNormal fun a' w' => S w' ∧ tailH P ops S K (o' :: rest) a' w') [o] a w
theorem wpOp_of_one {K : Act → World → Prop} {i : Nat} {o : Oper} {a : Act} {w : World} (h0 : ops[i]? = some o) (h : wpList P ops (OnlyNormal K) [o] a w) : wpOp P ops (OnlyNormal K) i (fun a' w' => OnlyNormal K .normal a' w') a w := by
  unfold wpOp; simp only [h0]; exact h
theorem wpAnyS_of_tail {K : Act → World → Prop} : ∀ (l : List Oper) (k : Nat) (listed : Array Bool) (a : Act) (w : World), (∀ j, l[j]? = ops[k + j]?) → sinkAt md ops (k + l.length - 1) = true →
    Region.seqB md ops l.length k listed = true → tailH P ops S K l a w → wpAnyS P md ops (OnlyNormal K) S l.length listed a w
  | [], _, _, _, _, _, _, hB, h => ⟨by simpa [Region.seqB] using hB, rfl, h⟩
  | [o], k, listed, a, w, hl, hsk, hB, h => by
    have h0 : ops[k]? = some o := by simpa using (hl 0).symm
    simp only [List.length_cons, List.length_nil, Region.seqB, Bool.and_eq_true, decide_eq_true_eq] at hB
    refine ⟨fun h1 => (by rw [hB.1] at h1; cases h1), fun i hi => ?_⟩
    rw [hB.1] at hi
    have hik : i = k := by simpa using hi
    subst hik
    have hsk' : sinkAt md ops i = true := by simpa using hsk
    exact wpOp_only (fun a' w' h' => ⟨fun hn => (by rw [hsk'] at hn; cases hn), by simpa [Region.seqB] using hB.2, rfl, h'.2⟩) (wpOp_of_one h0 h)
  | o :: o' :: l, k, listed, a, w, hl, hsk, hB, h => by
    have h0 : ops[k]? = some o := by simpa using (hl 0).symm
    simp only [List.length_cons, Region.seqB, Bool.and_eq_true, decide_eq_true_eq] at hB
    refine ⟨fun h1 => (by rw [hB.1] at h1; cases h1), fun i hi => ?_⟩
    rw [hB.1] at hi
    have hik : i = k := by simpa using hi
    subst hik
    refine wpOp_only (fun a' w' h' => ⟨fun _ => h'.2.1, wpAnyS_of_tail (o' :: l) (i + 1) _ a' w' (fun j => by have := hl (j + 1); simpa [Nat.add_assoc, Nat.add_comm 1 j] using this) ?_ (by simpa only [List.length_cons, Region.seqB, Bool.and_eq_true, decide_eq_true_eq] using hB.2) h'.2.2⟩) (wpOp_of_one h0 h)
    simpa [Nat.add_assoc, Nat.add_comm, Nat.add_left_comm] using hsk
theorem wpAnyS_head {K : Act → World → Prop} {g : Nat} {Lq : Act → Prop} {w : World} (hsel : Region.noSelect ops = true) (hS : S w) :
    ∀ (l : List Oper) (k : Nat) (listed : Array Bool) (a : Act), (∀ j, j < l.length → l[j]? = ops[k + j]?) → l.all headOk = true → Region.lexHead md ops g l.length k listed = true →
      (∀ listed' a', Region.seqB md ops g (k + l.length) listed' = true → Lq a' → wpAnyS P md ops (OnlyNormal K) S g listed' a' w) → wpQuiet P ops S Lq l a → wpAnyS P md ops (OnlyNormal K) S (l.length + g) listed a w
  | [], k, listed, a, _, _, hB, hL, h => by
    rw [List.length_nil, Nat.zero_add]
    exact hL _ _ (by simpa [Region.lexHead] using hB) h
  | o :: l, k, listed, a, hl, hk, hB, hL, h => by
    have h0 : ops[k]? = some o := by simpa using (hl 0 (by simp)).symm
    simp only [List.length_cons, Region.lexHead, Bool.and_eq_true] at hB
    obtain ⟨⟨hr, hf⟩, hB'⟩ := hB
    simp only [List.all_cons, Bool.and_eq_true] at hk
    have hst : qOp P ops S k (wpQuiet P ops S Lq l) a := by unfold qOp; simp only [h0]; exact h
    obtain ⟨v, hy, hK⟩ := yieldsIn_of_qOp h0 hst
    rw [List.length_cons, show l.length + 1 + g = (l.length + g) + 1 by omega]
    refine wpAnyS_first h0 (Region.noSelect_spec hsel) (fun c a w h => absurd h.1 (by simp)) _ _ _ _ (Region.free_spec h0 hf) (by simpa using hr) (yieldsIf_of hk.1 hy) hS ?_
    exact wpAnyS_head hsel hS l (k + 1) _ _ (fun j hj => by have := hl (j + 1) (by simp; omega); simpa [Nat.add_assoc, Nat.add_comm 1 j] using this) hk.2 hB'
      (fun listed' a' hs hq => hL listed' a' (by rw [List.length_cons, show k + (l.length + 1) = k + 1 + l.length by omega]; exact hs) hq) hK
def heldTailB (l : List Oper) (n : Nat) : Bool := noDefer l && Region.noSelect l.toArray && decide (n < l.length) && (l.take n).all headOk && sinkAt .any l.toArray (l.length - 1) && Region.lexHead .any l.toArray (l.length - n) n 0 (Array.replicate l.length false)
theorem any_held_tail {K : Act → World → Prop} {a : Act} {w : World} {l : List Oper} (n : Nat) (hB : heldTailB l n = true) (hS : S w.drew)
    (h : wpQuiet P l.toArray S (fun a' => tailH P l.toArray S K (l.drop n) a' w.drew) (l.take n) a) : wpAny P .any l.toArray (OnlyNormal K) l.toArray.size (Array.replicate l.toArray.size false) a w.drew := by
  simp only [heldTailB, Bool.and_eq_true, decide_eq_true_eq] at hB
  obtain ⟨⟨⟨⟨⟨hd, hsel⟩, hn⟩, hk⟩, hsk⟩, hlex⟩ := hB
  have htl : (l.take n).length = n := by simp; omega
  have hdl : (l.drop n).length = l.length - n := by simp
  refine wpAny_of_S (S := S) _ _ _ _ ?_
  have := wpAnyS_head (md := .any) (K := K) (g := l.length - n) (w := w.drew) hsel hS (l.take n) 0 (Array.replicate l.length false) a (fun j hj => by
    have hj' : j < n := by rw [htl] at hj; exact hj
    simp [hj']) hk (by rw [htl]; exact hlex) (fun listed' a' hs hq => by
      have := wpAnyS_of_tail (md := .any) (l.drop n) n listed' a' w.drew (fun j => by simp [List.getElem?_drop]) (by rw [hdl, show n + (l.length - n) - 1 = l.length - 1 by omega]; exact hsk) (by rw [hdl]; rw [htl, Nat.zero_add] at hs; exact hs) hq
      rwa [hdl] at this) h
  rw [htl, show n + (l.length - n) = l.length by omega] at this
  simpa using this
theorem wpIn_round_held {id lp m : Nat} {Q : Exit → Act → World → Prop} {a : Act} {w : World} {l : List Oper} (S : World → Prop) (n : Nat) (hm : P.follows .mixedOrders = true) (hB : heldTailB l n = true) (hS : S w.drew)
    (h : wpQuiet P l.toArray S (fun a' => tailH P l.toArray S (Q .normal) (l.drop n) a' w.drew) (l.take n) a) : (Code.region id l.toArray true).wpIn (Fence.wide.inRound lp) m P Q a w :=
  wpIn_region_any hm (wpAnyIn_of_wpAny (noDefer_spec (by simp only [heldTailB, Bool.and_eq_true] at hB; exact hB.1.1.1.1.1)) (fun _ _ h => h) _ _ _ _ (any_held_tail n hB hS h))
/-- The same outside a round. -/
theorem wp_region_held_tail {id : Nat} {Q : Exit → Act → World → Prop} {a : Act} {w : World} {l : List Oper} (S : World → Prop) (n : Nat) (hm : P.follows .mixedOrders = true) (hB : heldTailB l n = true) (hS : S w.drew)
    (h : wpQuiet P l.toArray S (fun a' => tailH P l.toArray S (Q .normal) (l.drop n) a' w.drew) (l.take n) a) : (Code.region id l.toArray true).wp P Q a w :=
  Code.wp_mono (fun e a w h => by obtain ⟨rfl, h⟩ := h; exact h) (wp_region_any (Q := OnlyNormal (Q .normal)) hm (any_held_tail n hB hS h))
theorem class_eq (S : World → Prop) : (fun w' => ∃ i : {w' : World // S w'}, w' = i.1) = S := by
  funext w'
  exact propext ⟨by rintro ⟨i, rfl⟩; exact i.2, fun h => ⟨⟨w', h⟩, rfl⟩⟩
/-- What is held said of a family of worlds (so that the cells' facts are rules). -/
theorem wpIn_round_held_fam {id lp m : Nat} {Q : Exit → Act → World → Prop} {a : Act} {w : World} {l : List Oper} (S : World → Prop) (n : Nat) (hm : P.follows .mixedOrders = true) (hB : heldTailB l n = true) (hS : S w.drew)
    (h : ∀ (I : Type) (_ : Nonempty I) (F : I → World), (∀ i, S (F i)) → wpQuiet P l.toArray (fun w' => ∃ i, w' = F i) (fun a' => tailH P l.toArray S (Q .normal) (l.drop n) a' w.drew) (l.take n) a) : (Code.region id l.toArray true).wpIn (Fence.wide.inRound lp) m P Q a w := by
  refine wpIn_round_held S n hm hB hS ?_
  have := h {w' : World // S w'} ⟨⟨w.drew, hS⟩⟩ (fun i => i.1) (fun i => i.2)
  rwa [class_eq S] at this
theorem wp_region_held_fam {id : Nat} {Q : Exit → Act → World → Prop} {a : Act} {w : World} {l : List Oper} (S : World → Prop) (n : Nat) (hm : P.follows .mixedOrders = true) (hB : heldTailB l n = true) (hS : S w.drew)
    (h : ∀ (I : Type) (_ : Nonempty I) (F : I → World), (∀ i, S (F i)) → wpQuiet P l.toArray (fun w' => ∃ i, w' = F i) (fun a' => tailH P l.toArray S (Q .normal) (l.drop n) a' w.drew) (l.take n) a) : (Code.region id l.toArray true).wp P Q a w := by
  refine wp_region_held_tail S n hm hB hS ?_
  have := h {w' : World // S w'} ⟨⟨w.drew, hS⟩⟩ (fun i => i.1) (fun i => i.2)
  rwa [class_eq S] at this
end
end Go.Proofs.Ytfhaebaegkpkhaa.QTail
set_option linter.unusedVariables false
set_option linter.unusedSimpArgs false
namespace Go.Proofs.Ytfhaebaegkpkhaa.QTail
open Go
section
variable {P : Program} {ops : Array Oper} {md : Region.Mode} {S : World → Prop}
def headOk2 (o : Oper) : Bool := match o.op with
  | .pick _ _ _ | .nilCheck _ => true
  | _ => headOk o
theorem headOk2_value {o : Oper} (h : headOk2 o = true) {ρ : Operand → Value} {w w' : World} {x : Next} (hr : (execOp ρ o).run P w = .ok x w') : ∃ v, x = .value v := by
  cases ho : o.op with
  | pick c a b =>
    unfold execOp at hr
    simp only [ho, Sem.run_bind] at hr
    cases hm : (asBool (ρ c)).run P w with
    | ok v w1 =>
      rw [hm] at hr
      simp only [Result.andThen_ok, Sem.run_pure] at hr
      injection hr with h1 h2
      exact ⟨_, h1.symm⟩
    | halt y w1 => rw [hm] at hr; cases hr
  | nilCheck y =>
    unfold execOp at hr
    simp only [ho] at hr
    split at hr
    · simp [runtimePanic] at hr
    · simp [runtimePanic] at hr
    · simp [runtimePanic] at hr
    · split at hr
      · simp [runtimePanic] at hr
      · simp only [Sem.run_bind] at hr
        rw [run_program] at hr
        simp only [Result.andThen_ok] at hr
        generalize (nilAhead _ _ _ _).run P w = r at hr
        cases r with
        | halt y w1 => simp only [Result.andThen_halt] at hr; cases hr
        | ok b w1 =>
          simp only [Result.andThen_ok] at hr
          split at hr
          · simp [unsupported] at hr
          · simp only [Sem.run_pure] at hr
            injection hr with h1 h2
            exact ⟨_, h1.symm⟩
      · simp only [Sem.run_pure] at hr
        injection hr with h1 h2
        exact ⟨_, h1.symm⟩
    · simp only [Sem.run_pure] at hr
      injection hr with h1 h2
      exact ⟨_, h1.symm⟩
  | _ =>
    refine headOk_value ?_ hr
    unfold headOk2 at h
    rw [ho] at h
    exact h
theorem yieldsIf_of2 {o : Oper} {v : Value} {a : Act} (hk : headOk2 o = true) (h : YieldsIn P ops S o v a) : YieldsIf P ops S o v a := by
  rcases h with ⟨hw, hv⟩ | ⟨hw, rfl⟩
  · refine .inl ⟨hw, fun w hS => ?_⟩
    have h1 := hv w hS
    unfold Oper.quietAt at h1
    cases hr : (execOp a.eval o).run P w with
    | ok x w' =>
      obtain ⟨u, rfl⟩ := headOk2_value hk hr
      rw [hr] at h1
      obtain ⟨rfl, rfl⟩ := h1
      rfl
    | halt x w' => rw [hr] at h1; exact h1.elim
  · exact .inr ⟨hw, rfl⟩
/-- Number k is taken first. -/
theorem wpAnyS_take {K : Act → World → Prop} {f k : Nat} {o : Oper} {listed : Array Bool} {a : Act} {w : World} (h0 : ops[k]? = some o) (hsel : Region.noSelect ops = true) (hk : headOk2 o = true)
    (hr : (Region.ready md ops listed).contains k = true) (hf : Region.free md ops listed k = true) (hS : S w) (h : wpQuiet P ops S (fun a' => wpAnyS P md ops (OnlyNormal K) S f (listed.setIfInBounds k true) a' w) [o] a) :
    wpAnyS P md ops (OnlyNormal K) S (f + 1) listed a w := by
  have hst : qOp P ops S k (fun a' => wpAnyS P md ops (OnlyNormal K) S f (listed.setIfInBounds k true) a' w) a := by unfold qOp; simp only [h0]; exact h
  obtain ⟨v, hy, hK⟩ := yieldsIn_of_qOp h0 hst
  exact wpAnyS_first h0 (Region.noSelect_spec hsel) (fun c a w h => absurd h.1 (by simp)) _ _ _ _ (Region.free_spec h0 hf) (by simpa using hr) (yieldsIf_of2 hk hy) hS hK
/-- Number k is the only one that may come up. -/
theorem wpAnyS_only {K : Act → World → Prop} {f k : Nat} {o : Oper} {listed : Array Bool} {a : Act} {w : World} (h0 : ops[k]? = some o) (hr : Region.ready md ops listed = [k])
    (h : wpList P ops (OnlyNormal fun a' w' => S w' ∧ wpAnyS P md ops (OnlyNormal K) S f (listed.setIfInBounds k true) a' w') [o] a w) : wpAnyS P md ops (OnlyNormal K) S (f + 1) listed a w := by
  refine ⟨fun h1 => (by rw [hr] at h1; cases h1), fun i hi => ?_⟩
  rw [hr] at hi
  have hik : i = k := by simpa using hi
  subst hik
  exact wpOp_only (fun a' w' h' => ⟨fun _ => h'.2.1, h'.2.2⟩) (wpOp_of_one h0 h)
def mixW (P : Program) (ops : Array Oper) (S C : World → Prop) (K : Act → World → Prop) : List Oper → Act → World → Prop
  | [], a, w => K a w
  | o :: rest, a, w => (headOk2 o = true ∧ wpQuiet P ops C (fun a' => mixW P ops S C K rest a' w) [o] a) ∨ (headOk2 o = false ∧ wpList P ops (OnlyNormal fun a' w' => S w' ∧ mixW P ops S C K rest a' w') [o] a w)
def mixB (md : Region.Mode) (ops : Array Oper) : List Nat → Array Bool → Bool
  | [], listed => (Region.ready md ops listed).isEmpty
  | k :: ks, listed => (if (ops[k]?.map headOk2).getD false then (Region.ready md ops listed).contains k && Region.free md ops listed k else decide (Region.ready md ops listed = [k])) && mixB md ops ks (listed.setIfInBounds k true)
theorem wpAnyS_mix {K : Act → World → Prop} (hsel : Region.noSelect ops = true) : ∀ (ks : List Nat) (l : List Oper) (listed : Array Bool) (a : Act) (w : World), ks.map (fun k => ops[k]?) = l.map some → mixB md ops ks listed = true → S w →
    mixW P ops S S K l a w → wpAnyS P md ops (OnlyNormal K) S ks.length listed a w
  | [], [], _, _, _, _, hB, _, h => ⟨by simpa [mixB, List.isEmpty_iff] using hB, rfl, h⟩
  | [], _ :: _, _, _, _, hl, _, _, _ => by simp at hl
  | _ :: _, [], _, _, _, hl, _, _, _ => by simp at hl
  | k :: ks, o :: l, listed, a, w, hl, hB, hS, h => by
    simp only [List.map_cons, List.cons.injEq] at hl
    have h0 : ops[k]? = some o := hl.1
    simp only [mixB, h0, Option.map_some, Option.getD_some, Bool.and_eq_true] at hB
    rcases h with ⟨hk, h⟩ | ⟨hk, h⟩
    · rw [if_pos hk, Bool.and_eq_true] at hB
      have hst : qOp P ops S k (fun a' => mixW P ops S S K l a' w) a := by unfold qOp; simp only [h0]; exact h
      obtain ⟨v, hy, hK⟩ := yieldsIn_of_qOp h0 hst
      exact wpAnyS_first h0 (Region.noSelect_spec hsel) (fun c a w h => absurd h.1 (by simp)) _ _ _ _ (Region.free_spec h0 hB.1.2) (by simpa using hB.1.1) (yieldsIf_of2 hk hy) hS (wpAnyS_mix hsel ks l _ _ _ hl.2 hB.2 hS hK)
    · rw [hk] at hB
      simp only [Bool.false_eq_true, if_false, decide_eq_true_eq] at hB
      refine wpAnyS_only h0 hB.1 ?_
      have hm := wpOp_of_one h0 h
      have := wpOp_only (R' := fun a' w' => S w' ∧ wpAnyS P md ops (OnlyNormal K) S ks.length (listed.setIfInBounds k true) a' w') (K' := fun a' w' => OnlyNormal (fun a' w' => S w' ∧ wpAnyS P md ops (OnlyNormal K) S ks.length (listed.setIfInBounds k true) a' w') .normal a' w')
        (fun a' w' h' => ⟨rfl, h'.2.1, wpAnyS_mix hsel ks l _ _ _ hl.2 hB.2 h'.2.1 h'.2.2⟩) hm
      unfold wpOp at this
      simp only [h0] at this
      exact this
theorem mixW_head {C : World → Prop} {K : Act → World → Prop} {o : Oper} {rest : List Oper} {a : Act} {w : World} (hk : headOk2 o = true) (h : wpQuiet P ops C (fun a' => mixW P ops S C K rest a' w) [o] a) : mixW P ops S C K (o :: rest) a w := .inl ⟨hk, h⟩
theorem mixW_step {C : World → Prop} {K : Act → World → Prop} {o : Oper} {rest : List Oper} {a : Act} {w : World} (hk : headOk2 o = false) (h : wpList P ops (OnlyNormal fun a' w' => S w' ∧ mixW P ops S C K rest a' w') [o] a w) : mixW P ops S C K (o :: rest) a w := .inr ⟨hk, h⟩
/-- With the cells' facts as rules. -/
theorem wpAnyS_mix_fam {K : Act → World → Prop} {l : List Oper} {listed : Array Bool} {a : Act} {w : World} {f : Nat} (ks : List Nat) (hf : f = ks.length) (hsel : Region.noSelect ops = true) (hl : ks.map (fun k => ops[k]?) = l.map some) (hB : mixB md ops ks listed = true) (hS : S w)
    (h : ∀ (I : Type) (_ : Nonempty I) (F : I → World), (∀ i, S (F i)) → mixW P ops S (fun w' => ∃ i, w' = F i) K l a w) : wpAnyS P md ops (OnlyNormal K) S f listed a w := by
  subst hf
  refine wpAnyS_mix hsel ks l listed a w hl hB hS ?_
  have := h {w' : World // S w'} ⟨⟨w, hS⟩⟩ (fun i => i.1) (fun i => i.2)
  rwa [class_eq S] at this
def pickOps (l : List Oper) (ks : List Nat) : List Oper := ks.filterMap (l[·]?)
theorem pickOps_map (l : List Oper) : ∀ (ks : List Nat), (ks.all fun k => decide (k < l.length)) = true → ks.map (fun k => l.toArray[k]?) = (pickOps l ks).map some
  | [], _ => rfl
  | k :: ks, h => by
    simp only [List.all_cons, Bool.and_eq_true, decide_eq_true_eq] at h
    have ih := pickOps_map l ks h.2
    unfold pickOps at ih ⊢
    rw [List.filterMap_cons, List.map_cons, ih]
    simp [List.getElem?_eq_getElem h.1]
theorem wpAnyS_mix_lit {K : Act → World → Prop} {l : List Oper} {listed : Array Bool} {a : Act} {w : World} {f : Nat} (ks : List Nat) (hf : f = ks.length) (hk : (ks.all fun k => decide (k < l.length)) = true) (hsel : Region.noSelect l.toArray = true) (hB : mixB md l.toArray ks listed = true) (hS : S w)
    (h : ∀ (I : Type) (_ : Nonempty I) (F : I → World), (∀ i, S (F i)) → mixW P l.toArray S (fun w' => ∃ i, w' = F i) K (pickOps l ks) a w) : wpAnyS P md l.toArray (OnlyNormal K) S f listed a w :=
  wpAnyS_mix_fam ks hf hsel (pickOps_map l ks hk) hB hS h
/-- The beginning. -/
theorem wp_region_S {id : Nat} {Q : Exit → Act → World → Prop} {a : Act} {w : World} (S : World → Prop) (hm : P.follows .mixedOrders = true) (h : wpAnyS P .any ops (OnlyNormal (Q .normal)) S ops.size (Array.replicate ops.size false) a w.drew) : (Code.region id ops true).wp P Q a w :=
  Code.wp_mono (fun e a w h => by obtain ⟨rfl, h⟩ := h; exact h) (wp_region_any (Q := OnlyNormal (Q .normal)) hm (wpAny_of_S _ _ _ _ h))
end
end Go.Proofs.Ytfhaebaegkpkhaa.QTail
set_option linter.unusedVariables false
set_option linter.unusedSimpArgs false
namespace Go.Proofs.Ytfhaebaegkpkhaa.QTail
open Go
section
variable {P : Program} {ops : Array Oper} {md : Region.Mode} {S : World → Prop} {need : Nat → Bool}
/-- Number j waits for every number that asks for S. -/
def sinkN (need : Nat → Bool) (md : Region.Mode) (ops : Array Oper) (j : Nat) : Bool := (List.range ops.size).all fun i => !(need i) || i == j || ((ops[j]?.map (·.after)).getD #[]).any fun e => Region.binds md e && e.on == i
theorem sinkN_on {j i : Nat} {oj : Oper} (h : sinkN need md ops j = true) (hj : ops[j]? = some oj) (hi : i < ops.size) (hn : need i = true) (hne : i ≠ j) : ∃ e ∈ oj.after, Region.binds md e = true ∧ e.on = i := by
  have h1 := List.all_eq_true.1 h i (List.mem_range.2 hi)
  simp only [hj, hn, Option.map_some, Option.getD_some, Bool.or_eq_true, beq_iff_eq, Bool.not_true, Bool.false_eq_true, false_or] at h1
  rcases h1 with h1 | h1
  · exact absurd h1 hne
  · obtain ⟨e, he, h2⟩ := Array.any_eq_true'.1 h1
    simp only [Bool.and_eq_true, beq_iff_eq] at h2
    exact ⟨e, he, h2.1, h2.2⟩
def wpAnyN (P : Program) (md : Region.Mode) (ops : Array Oper) (Q : Exit → Act → World → Prop) (S : World → Prop) (need : Nat → Bool) : Nat → Array Bool → Act → World → Prop
  | 0, listed, a, w => Region.ready md ops listed = [] ∧ Q .normal a w
  | f + 1, listed, a, w =>
    (Region.ready md ops listed = [] → Q .normal a w) ∧
    ∀ i ∈ Region.ready md ops listed, wpOp P ops Q i (fun a' w' => (S w → sinkN need md ops i = false → S w') ∧ wpAnyN P md ops Q S need f (listed.setIfInBounds i true) a' w') a w
theorem wpAny_of_N {Q : Exit → Act → World → Prop} : ∀ (f : Nat) (listed : Array Bool) (a : Act) (w : World), wpAnyN P md ops Q S need f listed a w → wpAny P md ops Q f listed a w
  | 0, _, _, _, h => h
  | f + 1, _, _, _, h => ⟨h.1, fun i hi => wpOp_mono (fun a' w' h' => wpAny_of_N f _ a' w' h'.2) (h.2 i hi)⟩
theorem wpAnyN_first {Q : Exit → Act → World → Prop} {i : Nat} {oi : Oper} {v : Value} (hi : ops[i]? = some oi) (hsel : ∀ (j : Nat) (o : Oper) cs b, ops[j]? = some o → o.op ≠ .select cs b)
    (hQ : ∀ c a w, Q (.panic c) (a.put oi.dst v) w → Q (.panic c) a w) :
    ∀ (f : Nat) (listed : Array Bool) (a : Act) (w : World),
      (∀ j oj, ops[j]? = some oj → j ≠ i → listed.getD j true = false → (∀ e ∈ oj.after, Region.binds md e = true → e.on ≠ i) → oi.apart ops oj = true) →
      i ∈ Region.ready md ops listed → YieldsIf P ops (fun w => need i = true → S w) oi v a → (need i = true → S w) →
      wpAnyN P md ops Q S need f (listed.setIfInBounds i true) (a.put oi.dst v) w → wpAnyN P md ops Q S need (f + 1) listed a w := by
  have hisz : i < ops.size := (Array.getElem?_eq_some_iff.1 hi).1
  intro f
  induction f with
  | zero =>
    intro listed a w _ hr hy hS H
    refine ⟨fun h => (by rw [h] at hr; cases hr), fun j hj => ?_⟩
    by_cases hji : j = i
    · subst hji; exact hy.wpOp hi hS ⟨fun h _ => h, H⟩
    · have := ready_mono hj hji
      rw [H.1] at this
      cases this
  | succ f ih =>
    intro listed a w hfree hr hy hS H
    refine ⟨fun h => (by rw [h] at hr; cases hr), fun j hj => ?_⟩
    by_cases hji : j = i
    · subst hji; exact hy.wpOp hi hS ⟨fun h _ => h, H⟩
    · have h1 := H.2 j (ready_mono hj hji)
      obtain ⟨hjun, oj, hoj, hall⟩ := mem_ready.1 hj
      have hnot : ∀ e ∈ oj.after, Region.binds md e = true → e.on ≠ i := fun e he hb heq => by
        have h1 := hall e he hb
        rw [heq, getD_both (mem_ready.1 hr).1] at h1
        cases h1
      have hns : need i = true → sinkN need md ops j = false := fun hn => by
        cases hs : sinkN need md ops j with
        | false => rfl
        | true =>
          obtain ⟨e, he, hb, heq⟩ := sinkN_on hs hoj hisz hn (Ne.symm hji)
          exact absurd heq (hnot e he hb)
      have h2 := wpOp_putIf hoj (hfree j oj hoj hji hjun hnot) (fun cs b => hsel i oi cs b hi) (fun cs b => hsel j oj cs b hoj) hQ hy h1
      have hfree' : ∀ k ok, ops[k]? = some ok → k ≠ i → (listed.setIfInBounds j true).getD k true = false →
          (∀ e ∈ ok.after, Region.binds md e = true → e.on ≠ i) → oi.apart ops ok = true := fun k ok hk hki hun hno => by
        refine hfree k ok hk hki ?_ hno
        by_cases hjk : j = k
        · subst hjk; exact hjun
        · rw [getD_set_ne true hjk] at hun; exact hun
      refine wpOp_mono (fun a' w' h3 => ⟨h3.2.1, ih (listed.setIfInBounds j true) a' w' hfree' (ready_mono hr (Ne.symm hji)) h3.1 (fun hn => h3.2.1 (hS hn) (hns hn)) ?_⟩) h2
      rw [Array.setIfInBounds_comm _ _ hji]
      exact h3.2.2
/-- The numbers in an order of one's own: a read that asks for S, an operation that asks for no world, or the only one that may come up. -/
def mixN (P : Program) (ops : Array Oper) (S C : World → Prop) (need : Nat → Bool) (snk : Nat → Bool) (K : Act → World → Prop) : List (Nat × Oper) → Act → World → Prop
  | [], a, w => K a w
  | (k, o) :: rest, a, w =>
    (headOk2 o = true ∧ need k = true ∧ S w ∧ wpQuiet P ops C (fun a' => mixN P ops S C need snk K rest a' w) [o] a) ∨
    (headOk2 o = true ∧ need k = false ∧ wpQuiet P ops (fun w' => ∃ i : World, w' = i) (fun a' => mixN P ops S C need snk K rest a' w) [o] a) ∨
    (headOk2 o = false ∧ wpList P ops (OnlyNormal fun a' w' => (snk k = false → S w') ∧ mixN P ops S C need snk K rest a' w') [o] a w)
theorem wpAnyN_mix {K : Act → World → Prop} (hsel : Region.noSelect ops = true) : ∀ (ks : List (Nat × Oper)) (listed : Array Bool) (a : Act) (w : World), (∀ x ∈ ks, ops[x.1]? = some x.2) → mixB md ops (ks.map (·.1)) listed = true →
    mixN P ops S S need (sinkN need md ops) K ks a w → wpAnyN P md ops (OnlyNormal K) S need ks.length listed a w
  | [], _, _, _, _, hB, h => ⟨by simpa [mixB, List.isEmpty_iff] using hB, rfl, h⟩
  | (k, o) :: ks, listed, a, w, hl, hB, h => by
    have h0 : ops[k]? = some o := hl (k, o) (by simp)
    have hl' : ∀ x ∈ ks, ops[x.1]? = some x.2 := fun x hx => hl x (by simp [hx])
    simp only [List.map_cons, mixB, h0, Option.map_some, Option.getD_some, Bool.and_eq_true] at hB
    rcases h with ⟨hk, hn, hS, h⟩ | ⟨hk, hn, h⟩ | ⟨hk, h⟩
    · rw [if_pos hk, Bool.and_eq_true] at hB
      have hst : qOp P ops S k (fun a' => mixN P ops S S need (sinkN need md ops) K ks a' w) a := by unfold qOp; simp only [h0]; exact h
      obtain ⟨v, hy, hK⟩ := yieldsIn_of_qOp h0 hst
      have hy' : YieldsIf P ops (fun w => need k = true → S w) o v a := (yieldsIf_of2 hk hy).imp (fun ⟨e1, e2⟩ => ⟨e1, fun w hw => e2 w (hw hn)⟩) id
      exact wpAnyN_first h0 (Region.noSelect_spec hsel) (fun c a w h => absurd h.1 (by simp)) _ _ _ _ (Region.free_spec h0 hB.1.2) (by simpa using hB.1.1) hy' (fun _ => hS) (wpAnyN_mix hsel ks _ _ _ hl' hB.2 hK)
    · rw [if_pos hk, Bool.and_eq_true] at hB
      have hst : qOp P ops (fun w' => ∃ i : World, w' = i) k (fun a' => mixN P ops S S need (sinkN need md ops) K ks a' w) a := by unfold qOp; simp only [h0]; exact h
      obtain ⟨v, hy, hK⟩ := yieldsIn_of_qOp h0 hst
      have hy' : YieldsIf P ops (fun w => need k = true → S w) o v a := (yieldsIf_of2 hk hy).imp (fun ⟨e1, e2⟩ => ⟨e1, fun w _ => e2 w ⟨w, rfl⟩⟩) id
      exact wpAnyN_first h0 (Region.noSelect_spec hsel) (fun c a w h => absurd h.1 (by simp)) _ _ _ _ (Region.free_spec h0 hB.1.2) (by simpa using hB.1.1) hy' (fun h => by rw [hn] at h; cases h) (wpAnyN_mix hsel ks _ _ _ hl' hB.2 hK)
    · rw [hk] at hB
      simp only [Bool.false_eq_true, if_false, decide_eq_true_eq] at hB
      refine ⟨fun h1 => (by rw [hB.1] at h1; cases h1), fun i hi => ?_⟩
      rw [hB.1] at hi
      have hik : i = k := by simpa using hi
      subst hik
      exact wpOp_only (fun a' w' h' => ⟨fun _ => h'.2.1, wpAnyN_mix hsel ks _ _ _ hl' hB.2 h'.2.2⟩) (wpOp_of_one h0 h)
theorem mixN_need {C : World → Prop} {snk : Nat → Bool} {K : Act → World → Prop} {k : Nat} {o : Oper} {rest : List (Nat × Oper)} {a : Act} {w : World} (hk : headOk2 o = true) (hn : need k = true) (hS : S w) (h : wpQuiet P ops C (fun a' => mixN P ops S C need snk K rest a' w) [o] a) : mixN P ops S C need snk K ((k, o) :: rest) a w := .inl ⟨hk, hn, hS, h⟩
theorem mixN_free {C : World → Prop} {snk : Nat → Bool} {K : Act → World → Prop} {k : Nat} {o : Oper} {rest : List (Nat × Oper)} {a : Act} {w : World} (hk : headOk2 o = true) (hn : need k = false) (h : wpQuiet P ops (fun w' => ∃ i : World, w' = i) (fun a' => mixN P ops S C need snk K rest a' w) [o] a) : mixN P ops S C need snk K ((k, o) :: rest) a w := .inr (.inl ⟨hk, hn, h⟩)
theorem mixN_step {C : World → Prop} {snk : Nat → Bool} {K : Act → World → Prop} {k : Nat} {o : Oper} {rest : List (Nat × Oper)} {a : Act} {w : World} (hk : headOk2 o = false) (h : wpList P ops (OnlyNormal fun a' w' => (snk k = false → S w') ∧ mixN P ops S C need snk K rest a' w') [o] a w) : mixN P ops S C need snk K ((k, o) :: rest) a w := .inr (.inr ⟨hk, h⟩)
def pairOps (l : List Oper) (ks : List Nat) : List (Nat × Oper) := ks.filterMap fun k => (l[k]?).map fun o => (k, o)
theorem pairOps_at (l : List Oper) (ks : List Nat) : ∀ x ∈ pairOps l ks, l.toArray[x.1]? = some x.2 := fun x hx => by
  obtain ⟨k, -, hk⟩ := List.mem_filterMap.1 hx
  obtain ⟨o, ho, rfl⟩ := Option.map_eq_some_iff.1 hk
  simpa using ho
theorem pairOps_fst (l : List Oper) : ∀ (ks : List Nat), (ks.all fun k => decide (k < l.length)) = true → (pairOps l ks).map (·.1) = ks
  | [], _ => rfl
  | k :: ks, h => by
    simp only [List.all_cons, Bool.and_eq_true, decide_eq_true_eq] at h
    have ih := pairOps_fst l ks h.2
    unfold pairOps at ih ⊢
    rw [List.filterMap_cons, List.getElem?_eq_getElem h.1]
    simp only [Option.map_some, List.map_cons, ih]
/-- The whole region, the numbers in an order of one's own. -/
theorem wp_region_mix {id : Nat} {Q : Exit → Act → World → Prop} {a : Act} {w : World} {l : List Oper} (S : World → Prop) (need : Nat → Bool) (ks : List Nat) (hm : P.follows .mixedOrders = true) (hlen : l.length = ks.length) (hk : (ks.all fun k => decide (k < l.length)) = true) (hsel : Region.noSelect l.toArray = true)
    (hB : mixB .any l.toArray ks (Array.replicate l.length false) = true)
    (h : ∀ (I : Type) (F : I → World), (∀ i, S (F i)) → mixN P l.toArray S (fun w' => ∃ i, w' = F i) need (sinkN need .any l.toArray) (Q .normal) (pairOps l ks) a w.drew) : (Code.region id l.toArray true).wp P Q a w := by
  refine Code.wp_mono (fun e a w h => by obtain ⟨rfl, h⟩ := h; exact h) (wp_region_any (Q := OnlyNormal (Q .normal)) hm (wpAny_of_N (S := S) (need := need) _ _ _ _ ?_))
  have h1 := h {w' : World // S w'} (fun i => i.1) (fun i => i.2)
  rw [class_eq S] at h1
  have h2 := wpAnyN_mix (md := .any) hsel (pairOps l ks) (Array.replicate l.length false) a w.drew (pairOps_at l ks) (by rw [pairOps_fst l ks hk]; exact hB) h1
  have h3 : (pairOps l ks).length = l.length := by rw [hlen, ← congrArg List.length (pairOps_fst l ks hk), List.length_map]
  rw [h3] at h2
  simpa using h2
/-- The same, where what is held holds at the beginning. -/
theorem wp_region_mixS {id : Nat} {Q : Exit → Act → World → Prop} {a : Act} {w : World} {l : List Oper} (S : World → Prop) (need : Nat → Bool) (ks : List Nat) (hm : P.follows .mixedOrders = true) (hlen : l.length = ks.length) (hk : (ks.all fun k => decide (k < l.length)) = true) (hsel : Region.noSelect l.toArray = true)
    (hB : mixB .any l.toArray ks (Array.replicate l.length false) = true) (hS : S w)
    (h : ∀ (I : Type) (_ : Nonempty I) (F : I → World), (∀ i, S (F i)) → mixN P l.toArray S (fun w' => ∃ i, w' = F i) need (sinkN need .any l.toArray) (Q .normal) (pairOps l ks) a w.drew) : (Code.region id l.toArray true).wp P Q a w := by
  refine Code.wp_mono (fun e a w h => by obtain ⟨rfl, h⟩ := h; exact h) (wp_region_any (Q := OnlyNormal (Q .normal)) hm (wpAny_of_N (S := S) (need := need) _ _ _ _ ?_))
  have h1 := h {w' : World // S w'} ⟨⟨w, hS⟩⟩ (fun i => i.1) (fun i => i.2)
  rw [class_eq S] at h1
  have h2 := wpAnyN_mix (md := .any) hsel (pairOps l ks) (Array.replicate l.length false) a w.drew (pairOps_at l ks) (by rw [pairOps_fst l ks hk]; exact hB) h1
  have h3 : (pairOps l ks).length = l.length := by rw [hlen, ← congrArg List.length (pairOps_fst l ks hk), List.length_map]
  rw [h3] at h2
  simpa using h2
end
end Go.Proofs.Ytfhaebaegkpkhaa.QTail
