/- A region that draws its order: a beginning taken in an order of one's own; then a fork: either of two operations that both turn the world may come first. · A region that draws its order, in a round of a range over a function: an order of one's own. -/
import Derived.Test.YtfhaebaegkpkhaaQTail
set_option linter.unusedVariables false
set_option linter.unusedSimpArgs false
namespace Go.Proofs.Ytfhaebaegkpkhaa.QTail
open Go
section
variable {P : Program} {ops : Array Oper} {md : Region.Mode} {S : World → Prop}
def mixPB (md : Region.Mode) (ops : Array Oper) : List Nat → Array Bool → Bool
  | [], _ => true
  | k :: ks, listed => (if (ops[k]?.map headOk2).getD false then (Region.ready md ops listed).contains k && Region.free md ops listed k else decide (Region.ready md ops listed = [k])) && mixPB md ops ks (listed.setIfInBounds k true)
def setAll (ks : List Nat) (listed : Array Bool) : Array Bool := ks.foldl (fun b k => b.setIfInBounds k true) listed
theorem wpAnyS_mixP {K K2 : Act → World → Prop} {g : Nat} (hsel : Region.noSelect ops = true) : ∀ (ks : List Nat) (l : List Oper) (listed : Array Bool) (a : Act) (w : World), ks.map (fun k => ops[k]?) = l.map some → mixPB md ops ks listed = true → S w →
    (∀ a w, S w → K a w → wpAnyS P md ops (OnlyNormal K2) S g (setAll ks listed) a w) → mixW P ops S S K l a w → wpAnyS P md ops (OnlyNormal K2) S (ks.length + g) listed a w
  | [], [], _, _, _, _, _, hS, hK, h => by rw [List.length_nil, Nat.zero_add]; exact hK _ _ hS h
  | [], _ :: _, _, _, _, hl, _, _, _, _ => by simp at hl
  | _ :: _, [], _, _, _, hl, _, _, _, _ => by simp at hl
  | k :: ks, o :: l, listed, a, w, hl, hB, hS, hK, h => by
    simp only [List.map_cons, List.cons.injEq] at hl
    have h0 : ops[k]? = some o := hl.1
    simp only [mixPB, h0, Option.map_some, Option.getD_some, Bool.and_eq_true] at hB
    rw [List.length_cons, show ks.length + 1 + g = (ks.length + g) + 1 by omega]
    rcases h with ⟨hk, h⟩ | ⟨hk, h⟩
    · rw [if_pos hk, Bool.and_eq_true] at hB
      have hst : qOp P ops S k (fun a' => mixW P ops S S K l a' w) a := by unfold qOp; simp only [h0]; exact h
      obtain ⟨v, hy, hK'⟩ := yieldsIn_of_qOp h0 hst
      exact wpAnyS_first h0 (Region.noSelect_spec hsel) (fun c a w h => absurd h.1 (by simp)) _ _ _ _ (Region.free_spec h0 hB.1.2) (by simpa using hB.1.1) (yieldsIf_of2 hk hy) hS (wpAnyS_mixP hsel ks l _ _ _ hl.2 hB.2 hS hK hK')
    · rw [hk] at hB
      simp only [Bool.false_eq_true, if_false, decide_eq_true_eq] at hB
      refine wpAnyS_only h0 hB.1 ?_
      have hm := wpOp_of_one h0 h
      have := wpOp_only (R' := fun a' w' => S w' ∧ wpAnyS P md ops (OnlyNormal K2) S (ks.length + g) (listed.setIfInBounds k true) a' w') (K' := fun a' w' => OnlyNormal (fun a' w' => S w' ∧ wpAnyS P md ops (OnlyNormal K2) S (ks.length + g) (listed.setIfInBounds k true) a' w') .normal a' w')
        (fun a' w' h' => ⟨rfl, h'.2.1, wpAnyS_mixP hsel ks l _ _ _ hl.2 hB.2 h'.2.1 hK h'.2.2⟩) hm
      unfold wpOp at this
      simp only [h0] at this
      exact this
/-- Either of two may come first. -/
theorem wpAnyS_fork {K : Act → World → Prop} {f : Nat} (i j : Nat) {oi oj : Oper} {listed : Array Bool} {a : Act} {w : World} (hr : Region.ready md ops listed = [i, j]) (hi : ops[i]? = some oi) (hj : ops[j]? = some oj)
    (h1 : wpList P ops (OnlyNormal fun a' w' => S w' ∧ wpAnyS P md ops (OnlyNormal K) S f (listed.setIfInBounds i true) a' w') [oi] a w)
    (h2 : wpList P ops (OnlyNormal fun a' w' => S w' ∧ wpAnyS P md ops (OnlyNormal K) S f (listed.setIfInBounds j true) a' w') [oj] a w) : wpAnyS P md ops (OnlyNormal K) S (f + 1) listed a w := by
  refine ⟨fun h1 => (by rw [hr] at h1; cases h1), fun k hk => ?_⟩
  rw [hr] at hk
  have hk' : k = i ∨ k = j := by simpa using hk
  rcases hk' with rfl | rfl
  · exact wpOp_only (fun a' w' h' => ⟨fun _ => h'.2.1, h'.2.2⟩) (wpOp_of_one hi h1)
  · exact wpOp_only (fun a' w' h' => ⟨fun _ => h'.2.1, h'.2.2⟩) (wpOp_of_one hj h2)
/-- The whole region: a beginning in an order of one's own, then what is shown of the rest. -/
theorem wp_region_mixP {id : Nat} {Q : Exit → Act → World → Prop} {a : Act} {w : World} {l : List Oper} (S : World → Prop) (K : Act → World → Prop) (ks : List Nat) (g : Nat) (hm : P.follows .mixedOrders = true) (hlen : l.length = ks.length + g) (hk : (ks.all fun k => decide (k < l.length)) = true) (hsel : Region.noSelect l.toArray = true)
    (hB : mixPB .any l.toArray ks (Array.replicate l.length false) = true) (hS : S w.drew)
    (h : ∀ (I : Type) (_ : Nonempty I) (F : I → World), (∀ i, S (F i)) → mixW P l.toArray S (fun w' => ∃ i, w' = F i) K (pickOps l ks) a w.drew)
    (hK : ∀ a w, S w → K a w → wpAnyS P .any l.toArray (OnlyNormal (Q .normal)) S g (setAll ks (Array.replicate l.length false)) a w) : (Code.region id l.toArray true).wp P Q a w := by
  refine wp_region_S S hm ?_
  have h1 := h {w' : World // S w'} ⟨⟨w.drew, hS⟩⟩ (fun i => i.1) (fun i => i.2)
  rw [class_eq S] at h1
  have h2 := wpAnyS_mixP (md := .any) (g := g) hsel ks (pickOps l ks) (Array.replicate l.length false) a w.drew (pickOps_map l ks hk) hB hS hK h1
  rw [← hlen] at h2
  simpa using h2
/-- As headOk2, and more operations that have a value and call nobody. -/
def headOkX (o : Oper) : Bool := match o.op with
  | .extract _ _ | .build _ _ | .convert _ _ _ | .unOp _ _ _ | .field _ _ _ | .index _ _ _ => true
  | _ => headOk2 o
theorem headOkX_value {o : Oper} (h : headOkX o = true) {ρ : Operand → Value} {w w' : World} {x : Next} (hr : (execOp ρ o).run P w = .ok x w') : ∃ v, x = .value v := by
  cases ho : o.op with
  | extract _ _ | build _ _ | convert _ _ _ | unOp _ _ _ | field _ _ _ | index _ _ _ => unfold execOp at hr; simp only [ho] at hr; exact valued hr
  | _ =>
    refine headOk2_value ?_ hr
    unfold headOkX at h
    rw [ho] at h
    exact h
theorem yieldsIf_ofX {o : Oper} {v : Value} {a : Act} (hk : headOkX o = true) (h : YieldsIn P ops S o v a) : YieldsIf P ops S o v a := by
  rcases h with ⟨hw, hv⟩ | ⟨hw, rfl⟩
  · refine .inl ⟨hw, fun w hS => ?_⟩
    have h1 := hv w hS
    unfold Oper.quietAt at h1
    cases hr : (execOp a.eval o).run P w with
    | ok x w' =>
      obtain ⟨u, rfl⟩ := headOkX_value hk hr
      rw [hr] at h1
      obtain ⟨rfl, rfl⟩ := h1
      rfl
    | halt x w' => rw [hr] at h1; exact h1.elim
  · exact .inr ⟨hw, rfl⟩
/-- An order of one's own that may fork where either of two operations may come first. -/
inductive Plan where
  | nil
  | seq (k : Nat) (p : Plan)
  | fork (i : Nat) (p : Plan) (j : Nat) (q : Plan)
inductive PlanO where
  | nil
  | bad
  | seq (o : Oper) (p : PlanO)
  | fork (o : Oper) (p : PlanO) (o' : Oper) (q : PlanO)
def Plan.lay (l : List Oper) : Plan → PlanO
  | .nil => .nil
  | .seq k p => match l[k]? with | some o => .seq o (p.lay l) | none => .bad
  | .fork i p j q => match l[i]?, l[j]? with | some o, some o' => .fork o (p.lay l) o' (q.lay l) | _, _ => .bad
def planB (md : Region.Mode) (ops : Array Oper) : Plan → Array Bool → Nat → Bool
  | .nil, listed, f => (Region.ready md ops listed).isEmpty && decide (f = 0)
  | .seq _ _, _, 0 => false
  | .seq k p, listed, f + 1 => (if (ops[k]?.map headOkX).getD false then (Region.ready md ops listed).contains k && Region.free md ops listed k else decide (Region.ready md ops listed = [k])) && planB md ops p (listed.setIfInBounds k true) f
  | .fork _ _ _ _, _, 0 => false
  | .fork i p j q, listed, f + 1 => decide (Region.ready md ops listed = [i, j]) && (planB md ops p (listed.setIfInBounds i true) f && planB md ops q (listed.setIfInBounds j true) f)
def planW (P : Program) (ops : Array Oper) (S C : World → Prop) (K : Act → World → Prop) : PlanO → Act → World → Prop
  | .nil, a, w => K a w
  | .bad, _, _ => False
  | .seq o p, a, w => (headOkX o = true ∧ wpQuiet P ops C (fun a' => planW P ops S C K p a' w) [o] a) ∨ (headOkX o = false ∧ wpList P ops (OnlyNormal fun a' w' => S w' ∧ planW P ops S C K p a' w') [o] a w)
  | .fork o p o' q, a, w => wpList P ops (OnlyNormal fun a' w' => S w' ∧ planW P ops S C K p a' w') [o] a w ∧ wpList P ops (OnlyNormal fun a' w' => S w' ∧ planW P ops S C K q a' w') [o'] a w
theorem wpAnyS_plan {K : Act → World → Prop} {l : List Oper} (hsel : Region.noSelect l.toArray = true) : ∀ (p : Plan) (f : Nat) (listed : Array Bool) (a : Act) (w : World), planB md l.toArray p listed f = true → S w →
    planW P l.toArray S S K (p.lay l) a w → wpAnyS P md l.toArray (OnlyNormal K) S f listed a w
  | .nil, f, listed, a, w, hB, _, h => by
    simp only [planB, Bool.and_eq_true, decide_eq_true_eq, List.isEmpty_iff] at hB
    obtain ⟨h1, rfl⟩ := hB
    exact ⟨h1, rfl, h⟩
  | .seq _ _, 0, _, _, _, hB, _, _ => by simp [planB] at hB
  | .seq k p, f + 1, listed, a, w, hB, hS, h => by
    simp only [planB, Bool.and_eq_true] at hB
    simp only [Plan.lay] at h
    cases h0' : l[k]? with
    | none => simp only [h0'] at h; exact h.elim
    | some o =>
      simp only [h0'] at h
      have h0 : l.toArray[k]? = some o := by simpa using h0'
      rw [h0] at hB
      simp only [Option.map_some, Option.getD_some] at hB
      rcases h with ⟨hk, h⟩ | ⟨hk, h⟩
      · rw [if_pos hk, Bool.and_eq_true] at hB
        have hst : qOp P l.toArray S k (fun a' => planW P l.toArray S S K (p.lay l) a' w) a := by unfold qOp; simp only [h0]; exact h
        obtain ⟨v, hy, hK⟩ := yieldsIn_of_qOp h0 hst
        exact wpAnyS_first h0 (Region.noSelect_spec hsel) (fun c a w h => absurd h.1 (by simp)) _ _ _ _ (Region.free_spec h0 hB.1.2) (by simpa using hB.1.1) (yieldsIf_ofX hk hy) hS (wpAnyS_plan hsel p f _ _ _ hB.2 hS hK)
      · rw [if_neg (by rw [hk]; decide)] at hB
        simp only [decide_eq_true_eq] at hB
        refine wpAnyS_only h0 hB.1 ?_
        have hm := wpOp_of_one h0 h
        have := wpOp_only (R' := fun a' w' => S w' ∧ wpAnyS P md l.toArray (OnlyNormal K) S f (listed.setIfInBounds k true) a' w') (K' := fun a' w' => OnlyNormal (fun a' w' => S w' ∧ wpAnyS P md l.toArray (OnlyNormal K) S f (listed.setIfInBounds k true) a' w') .normal a' w')
          (fun a' w' h' => ⟨rfl, h'.2.1, wpAnyS_plan hsel p f _ _ _ hB.2 h'.2.1 h'.2.2⟩) hm
        unfold wpOp at this
        simp only [h0] at this
        exact this
  | .fork _ _ _ _, 0, _, _, _, hB, _, _ => by simp [planB] at hB
  | .fork i p j q, f + 1, listed, a, w, hB, hS, h => by
    simp only [planB, Bool.and_eq_true, decide_eq_true_eq] at hB
    simp only [Plan.lay] at h
    cases hi' : l[i]? with
    | none => simp only [hi'] at h; exact h.elim
    | some o =>
      cases hj' : l[j]? with
      | none => simp only [hi', hj'] at h; exact h.elim
      | some o' =>
        simp only [hi', hj'] at h
        have hi : l.toArray[i]? = some o := by simpa using hi'
        have hj : l.toArray[j]? = some o' := by simpa using hj'
        obtain ⟨hr, hB1, hB2⟩ := hB
        refine ⟨fun h1 => (by rw [hr] at h1; cases h1), fun k hk => ?_⟩
        rw [hr] at hk
        have hk' : k = i ∨ k = j := by simpa using hk
        rcases hk' with rfl | rfl
        · exact wpOp_only (fun a' w' h' => ⟨fun _ => h'.2.1, wpAnyS_plan hsel p f _ _ _ hB1 h'.2.1 h'.2.2⟩) (wpOp_of_one hi h.1)
        · exact wpOp_only (fun a' w' h' => ⟨fun _ => h'.2.1, wpAnyS_plan hsel q f _ _ _ hB2 h'.2.1 h'.2.2⟩) (wpOp_of_one hj h.2)
theorem plan_take {C : World → Prop} {K : Act → World → Prop} {o : Oper} {p : PlanO} {a : Act} {w : World} (hk : headOkX o = true) (h : wpQuiet P ops C (fun a' => planW P ops S C K p a' w) [o] a) : planW P ops S C K (.seq o p) a w := .inl ⟨hk, h⟩
theorem plan_step {C : World → Prop} {K : Act → World → Prop} {o : Oper} {p : PlanO} {a : Act} {w : World} (hk : headOkX o = false) (h : wpList P ops (OnlyNormal fun a' w' => S w' ∧ planW P ops S C K p a' w') [o] a w) : planW P ops S C K (.seq o p) a w := .inr ⟨hk, h⟩
theorem plan_fork {C : World → Prop} {K : Act → World → Prop} {o o' : Oper} {p q : PlanO} {a : Act} {w : World} (h1 : wpList P ops (OnlyNormal fun a' w' => S w' ∧ planW P ops S C K p a' w') [o] a w) (h2 : wpList P ops (OnlyNormal fun a' w' => S w' ∧ planW P ops S C K q a' w') [o'] a w) : planW P ops S C K (.fork o p o' q) a w := ⟨h1, h2⟩
theorem plan_nil {C : World → Prop} {K : Act → World → Prop} {a : Act} {w : World} (h : K a w) : planW P ops S C K .nil a w := h
/-- The whole region by a plan; what is held, of a family of worlds (so that the cells' facts are rules). -/
theorem wp_region_plan {id : Nat} {Q : Exit → Act → World → Prop} {a : Act} {w : World} {l : List Oper} (S : World → Prop) (p : Plan) (hm : P.follows .mixedOrders = true) (hsel : Region.noSelect l.toArray = true)
    (hB : planB .any l.toArray p (Array.replicate l.length false) l.length = true) (hS : S w.drew)
    (h : ∀ (I : Type) (_ : Nonempty I) (F : I → World), (∀ i, S (F i)) → planW P l.toArray S (fun w' => ∃ i, w' = F i) (Q .normal) (p.lay l) a w.drew) : (Code.region id l.toArray true).wp P Q a w := by
  refine wp_region_S S hm ?_
  have h1 := h {w' : World // S w'} ⟨⟨w.drew, hS⟩⟩ (fun i => i.1) (fun i => i.2)
  rw [class_eq S] at h1
  have h2 := wpAnyS_plan (md := .any) hsel p l.length (Array.replicate l.length false) a w.drew hB hS h1
  simpa using h2
def Plan.ofList : List Nat → Plan → Plan
  | [], p => p
  | k :: ks, p => .seq k (Plan.ofList ks p)
end
end Go.Proofs.Ytfhaebaegkpkhaa.QTail

set_option linter.unusedVariables false
set_option linter.unusedSimpArgs false
namespace Go.Proofs.Ytfhaebaegkpkhaa.QTail
open Go Go.RowKit
theorem wpIn_round_plan {P : Program} {id lp m : Nat} {Q : Exit → Act → World → Prop} {a : Act} {w : World} {l : List Oper} (S : World → Prop) (p : Plan) (hm : P.follows .mixedOrders = true) (hd : noDefer l = true) (hsel : Region.noSelect l.toArray = true)
    (hB : planB .any l.toArray p (Array.replicate l.length false) l.length = true) (hS : S w.drew)
    (h : ∀ (I : Type) (_ : Nonempty I) (F : I → World), (∀ i, S (F i)) → planW P l.toArray S (fun w' => ∃ i, w' = F i) (Q .normal) (p.lay l) a w.drew) : (Code.region id l.toArray true).wpIn (Fence.wide.inRound lp) m P Q a w := by
  have h1 := h {w' : World // S w'} ⟨⟨w.drew, hS⟩⟩ (fun i => i.1) (fun i => i.2)
  rw [class_eq S] at h1
  have h2 := wpAnyS_plan (md := .any) hsel p l.length (Array.replicate l.length false) a w.drew hB hS h1
  exact wpIn_region_any hm (wpAnyIn_of_wpAny (noDefer_spec hd) (fun _ _ h => h) _ _ _ _ (wpAny_of_S (S := S) _ _ _ _ (by simpa using h2)))
end Go.Proofs.Ytfhaebaegkpkhaa.QTail
