/- A region that draws its order, quiet up to a forced tail, in a round of a range over a function: walked as outside. -/
import Derived.Test.YtplcjgpmainbnaaDoorQTail
import Derived.OrdersIn
import Derived.RangeFuncCalls
set_option linter.unusedVariables false
set_option linter.unusedSimpArgs false
namespace Go.Proofs.YtplcjgpmainbnaaDoor.QTail
open Go
section
variable {P : Program} {ops : Array Oper} {md : Region.Mode} {C : World → Prop}
theorem callsIn_round {l n : Nat} {f : FuncId} {args : Array Value} {w : World} {R : Ending → World → Prop} : CallsIn (Fence.wide.inRound l) n P f args w R ↔ Calls P f args w R := callsIn_wide
theorem rowsIn_round {l n : Nat} {row : String} {args : Array Value} {w : World} {R : Value → World → Prop} (h : Rows P row args w R) : RowsIn (Fence.wide.inRound l) n P row args w R := fun c cs _ =>
  let ⟨v, w', r, s⟩ := h c cs
  ⟨v, w', r, stepsIn_wide.2 s⟩
/-- Only the normal end counts. -/
def OnlyNormal (K : Act → World → Prop) : Exit → Act → World → Prop := fun e a w => e = .normal ∧ K a w
theorem onlyNormal_not (K : Act → World → Prop) : ¬ LetsOut (OnlyNormal K) := fun ⟨_, _, h, _⟩ => by cases h
theorem wpOpIn_of_wpOp {l n i : Nat} {K K' R : Act → World → Prop} {Q : Exit → Act → World → Prop} {a : Act} {w : World} (hd : ∀ (j : Nat) (o : Oper) c, ops[j]? = some o → o.op ≠ .defer c) (hK : ∀ a w, K a w → K' a w)
    (h : wpOp P ops (OnlyNormal R) i K a w) : wpOpIn (Fence.wide.inRound l) n P ops Q i K' a w := by
  unfold wpOp at h
  unfold wpOpIn
  cases ho : ops[i]? with
  | none => simp only [ho] at h ⊢; exact hK _ _ h
  | some o =>
    simp only [ho] at h ⊢
    by_cases hw : Region.wanted o (yielded ops a.tmps) = true
    · simp only [hw, if_true] at h ⊢
      rcases h with h | ⟨_, h⟩
      · refine ⟨fun _ _ => trivial, ?_⟩
        have hs : o.semAt (Fence.wide.inRound l).round a.eval = execOp a.eval o := Oper.semAt_eq _ _ _ (fun c => hd i o c ho)
        rw [hs]
        unfold Oper.wp at h
        generalize (execOp a.eval o).run P w = r at h
        cases r with
        | ok x w' =>
          cases x with
          | value v => exact hK _ _ h
          | skip => exact hK _ _ h
          | defer d => exact hK _ _ h
          | enter f args =>
            refine ⟨fun h => (by cases h), callsIn_round.2 (Calls.mono h ?_)⟩
            intro e w'' he
            cases e with
            | returned v => exact hK _ _ he
            | panicked chain => exact absurd he.1 (by simp)
            | outgrown => exact absurd he (onlyNormal_not _)
          | row row args => exact ⟨fun h => (by cases h), rowsIn_round (Rows.mono h fun v w'' he => hK _ _ he)⟩
          | _ => exact h.elim
        | halt x w' =>
          cases x with
          | panic v => exact absurd h.1 (by simp)
          | _ => exact h.elim
      · exact absurd h (onlyNormal_not _)
    · simp only [hw] at h ⊢
      exact ⟨fun _ _ => trivial, hK _ _ h⟩
theorem wpAnyIn_of_wpAny {l n : Nat} {R : Act → World → Prop} {Q : Exit → Act → World → Prop} (hd : ∀ (j : Nat) (o : Oper) c, ops[j]? = some o → o.op ≠ .defer c) (hQ : ∀ a w, R a w → Q .normal a w) :
    ∀ (f : Nat) (listed : Array Bool) (a : Act) (w : World), wpAny P md ops (OnlyNormal R) f listed a w → wpAnyIn (Fence.wide.inRound l) n P md ops Q f listed a w
  | 0, _, _, _, h => ⟨h.1, hQ _ _ h.2.2⟩
  | f + 1, _, _, _, h => ⟨fun h0 => hQ _ _ (h.1 h0).2, fun i hi => wpOpIn_of_wpOp hd (fun a' w' h' => wpAnyIn_of_wpAny hd hQ f _ a' w' h') (h.2 i hi)⟩
def noDefer (ops : List Oper) : Bool := ops.all fun o => match o.op with | .defer _ => false | _ => true
theorem noDefer_spec {l : List Oper} (h : noDefer l = true) : ∀ (j : Nat) (o : Oper) c, l.toArray[j]? = some o → o.op ≠ .defer c := fun j o c ho hc => by
  have hm : o ∈ l := List.mem_of_getElem? (by simpa using ho)
  have := List.all_eq_true.1 h o hm
  rw [hc] at this
  cases this
theorem any_quiet_tail {Q : Exit → Act → World → Prop} {a : Act} {w : World} {l : List Oper} (n : Nat) (hB : Region.lexTailB .any l.toArray n = true) (hC : C { w with drawn := w.drawn + 1 })
    (h : wpQuiet P l.toArray C (fun a' => ∀ w', C w' → wpList P l.toArray Q (l.drop n) a' w') (l.take n) a) : wpAny P .any l.toArray Q l.toArray.size (Array.replicate l.toArray.size false) a { w with drawn := w.drawn + 1 } := by
  simp only [Region.lexTailB, Bool.and_eq_true, decide_eq_true_eq] at hB
  obtain ⟨⟨⟨⟨hsel, hn⟩, hs⟩, hc⟩, hlex⟩ := hB
  have hn' : n < l.length := by simpa using hn
  have htl : (l.take n).length = n := by simp; omega
  have hdl : (l.drop n).length = l.toArray.size - n := by simp
  have inv0 : HeadInv .any l.toArray n (Array.replicate l.toArray.size false) :=
    ⟨by simp, fun j oj _ hl => (by rw [getD_replicate_false] at hl; cases hl), fun t _ ht => getD_in (by simpa using ht) (getD_replicate_false _ _)⟩
  have H := wpAnyLQ_lex (md := .any) (g := l.toArray.size - n) hsel hs hc hn (l.take n) 0 _ a (fun j hj => by
    have hj' : j < n := by rw [htl] at hj; exact hj
    simp [hj']) (by simpa using htl) inv0 (by rw [htl]; exact hlex) h
  have := wpAny_of_headQ (Q' := Q) (g := l.toArray.size - n) (fun listed a' w' hw' hL => by
    have := wpAny_of_seq (md := .any) (Q' := Q) (l.drop n) n listed a' w' (fun j => by simp [List.getElem?_drop]) (by rw [hdl]; exact hL.1) (hL.2 w' hw')
    rwa [hdl] at this) _ _ _ _ hC H
  rw [htl, show n + (l.toArray.size - n) = l.toArray.size by omega] at this
  exact this
/-- In a round: the head quiet among calls that answer by value, then the tail. -/
theorem wpIn_round_below_tail {id lp m : Nat} {Q : Exit → Act → World → Prop} {a : Act} {w : World} {l : List Oper} (n B : Nat) (hm : P.follows .mixedOrders = true) (hd : noDefer l = true) (hB : Region.lexTailB .any l.toArray n = true)
    (h : ∀ (I : Type) (_ : Nonempty I) (F : I → World), (∀ i, RowKit.Below B w (F i)) → (∀ w', RowKit.Below B w w' → ∃ i, w' = F i) →
      wpQuiet P l.toArray (fun w' => ∃ i, w' = F i) (fun a' => ∀ w', (∃ i, w' = F i) → wpList P l.toArray (OnlyNormal (Q .normal)) (l.drop n) a' w') (l.take n) a) : (Code.region id l.toArray true).wpIn (Fence.wide.inRound lp) m P Q a w :=
  wpIn_region_any hm (wpAnyIn_of_wpAny (noDefer_spec hd) (fun _ _ h => h) _ _ _ _
    (any_quiet_tail (C := fun w' => ∃ i : {w' : World // RowKit.Below B w w'}, w' = i.1) n hB ⟨⟨_, (RowKit.Below.refl B w).drew⟩, rfl⟩
      (h {w' : World // RowKit.Below B w w'} ⟨⟨w, RowKit.Below.refl B w⟩⟩ (fun i => i.1) (fun i => i.2) (fun w' hw => ⟨⟨w', hw⟩, rfl⟩))))
end
end Go.Proofs.YtplcjgpmainbnaaDoor.QTail
