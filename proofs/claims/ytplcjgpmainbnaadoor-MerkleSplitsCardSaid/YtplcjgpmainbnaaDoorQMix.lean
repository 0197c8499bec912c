/- From any point of a region that draws its order: reads are taken first where they come up; else the one operation that may come up. -/
import Derived.Test.YtplcjgpmainbnaaDoorQHeld
set_option linter.unusedVariables false
set_option linter.unusedSimpArgs false
namespace Go.Proofs.YtplcjgpmainbnaaDoor.QTail
open Go
section
variable {P : Program} {ops : Array Oper} {md : Region.Mode} {S : World → Prop}
def headOk2 (o : Oper) : Bool := match o.op with
  | .pick _ _ _ => true
  | _ => headOk o
theorem headOk2_value {o : Oper} (h : headOk2 o = true) {ρ : Operand → Value} {w w' : World} {x : Next} (hr : (execOp ρ o).run P w = .ok x w') : ∃ v, x = .value v := by
  cases ho : o.op with
  | pick c a b =>
    unfold execOp at hr
    simp only [ho, Sem.run_bind] at hr
    cases hm : (asBool (ρ c)).run P w with
    | ok v w1 =>
      rw [hm] at hr
      simp only [Result.andThen_ok, Sem.run_pure] at hr
      injection hr with h1 h2
      exact ⟨_, h1.symm⟩
    | halt y w1 => rw [hm] at hr; cases hr
  | _ =>
    refine headOk_value ?_ hr
    unfold headOk2 at h
    rw [ho] at h
    exact h
theorem yieldsIf_of2 {o : Oper} {v : Value} {a : Act} (hk : headOk2 o = true) (h : YieldsIn P ops S o v a) : YieldsIf P ops S o v a := by
  rcases h with ⟨hw, hv⟩ | ⟨hw, rfl⟩
  · refine .inl ⟨hw, fun w hS => ?_⟩
    have h1 := hv w hS
    unfold Oper.quietAt at h1
    cases hr : (execOp a.eval o).run P w with
    | ok x w' =>
      obtain ⟨u, rfl⟩ := headOk2_value hk hr
      rw [hr] at h1
      obtain ⟨rfl, rfl⟩ := h1
      rfl
    | halt x w' => rw [hr] at h1; exact h1.elim
  · exact .inr ⟨hw, rfl⟩
/-- Number k is taken first. -/
theorem wpAnyS_take {K : Act → World → Prop} {f k : Nat} {o : Oper} {listed : Array Bool} {a : Act} {w : World} (h0 : ops[k]? = some o) (hsel : Region.noSelect ops = true) (hk : headOk2 o = true)
    (hr : (Region.ready md ops listed).contains k = true) (hf : Region.free md ops listed k = true) (hS : S w) (h : wpQuiet P ops S (fun a' => wpAnyS P md ops (OnlyNormal K) S f (listed.setIfInBounds k true) a' w) [o] a) :
    wpAnyS P md ops (OnlyNormal K) S (f + 1) listed a w := by
  have hst : qOp P ops S k (fun a' => wpAnyS P md ops (OnlyNormal K) S f (listed.setIfInBounds k true) a' w) a := by unfold qOp; simp only [h0]; exact h
  obtain ⟨v, hy, hK⟩ := yieldsIn_of_qOp h0 hst
  exact wpAnyS_first h0 (Region.noSelect_spec hsel) (fun c a w h => absurd h.1 (by simp)) _ _ _ _ (Region.free_spec h0 hf) (by simpa using hr) (yieldsIf_of2 hk hy) hS hK
/-- Number k is the only one that may come up. -/
theorem wpAnyS_only {K : Act → World → Prop} {f k : Nat} {o : Oper} {listed : Array Bool} {a : Act} {w : World} (h0 : ops[k]? = some o) (hr : Region.ready md ops listed = [k])
    (h : wpList P ops (OnlyNormal fun a' w' => S w' ∧ wpAnyS P md ops (OnlyNormal K) S f (listed.setIfInBounds k true) a' w') [o] a w) : wpAnyS P md ops (OnlyNormal K) S (f + 1) listed a w := by
  refine ⟨fun h1 => (by rw [hr] at h1; cases h1), fun i hi => ?_⟩
  rw [hr] at hi
  have hik : i = k := by simpa using hi
  subst hik
  exact wpOp_only (fun a' w' h' => ⟨fun _ => h'.2.1, h'.2.2⟩) (wpOp_of_one h0 h)
def mixW (P : Program) (ops : Array Oper) (S C : World → Prop) (K : Act → World → Prop) : List Oper → Act → World → Prop
  | [], a, w => K a w
  | o :: rest, a, w => (headOk2 o = true ∧ wpQuiet P ops C (fun a' => mixW P ops S C K rest a' w) [o] a) ∨ (headOk2 o = false ∧ wpList P ops (OnlyNormal fun a' w' => S w' ∧ mixW P ops S C K rest a' w') [o] a w)
def mixB (md : Region.Mode) (ops : Array Oper) : List Nat → Array Bool → Bool
  | [], listed => (Region.ready md ops listed).isEmpty
  | k :: ks, listed => (if (ops[k]?.map headOk2).getD false then (Region.ready md ops listed).contains k && Region.free md ops listed k else decide (Region.ready md ops listed = [k])) && mixB md ops ks (listed.setIfInBounds k true)
theorem wpAnyS_mix {K : Act → World → Prop} (hsel : Region.noSelect ops = true) : ∀ (ks : List Nat) (l : List Oper) (listed : Array Bool) (a : Act) (w : World), ks.map (fun k => ops[k]?) = l.map some → mixB md ops ks listed = true → S w →
    mixW P ops S S K l a w → wpAnyS P md ops (OnlyNormal K) S ks.length listed a w
  | [], [], _, _, _, _, hB, _, h => ⟨by simpa [mixB, List.isEmpty_iff] using hB, rfl, h⟩
  | [], _ :: _, _, _, _, hl, _, _, _ => by simp at hl
  | _ :: _, [], _, _, _, hl, _, _, _ => by simp at hl
  | k :: ks, o :: l, listed, a, w, hl, hB, hS, h => by
    simp only [List.map_cons, List.cons.injEq] at hl
    have h0 : ops[k]? = some o := hl.1
    simp only [mixB, h0, Option.map_some, Option.getD_some, Bool.and_eq_true] at hB
    rcases h with ⟨hk, h⟩ | ⟨hk, h⟩
    · rw [if_pos hk, Bool.and_eq_true] at hB
      have hst : qOp P ops S k (fun a' => mixW P ops S S K l a' w) a := by unfold qOp; simp only [h0]; exact h
      obtain ⟨v, hy, hK⟩ := yieldsIn_of_qOp h0 hst
      exact wpAnyS_first h0 (Region.noSelect_spec hsel) (fun c a w h => absurd h.1 (by simp)) _ _ _ _ (Region.free_spec h0 hB.1.2) (by simpa using hB.1.1) (yieldsIf_of2 hk hy) hS (wpAnyS_mix hsel ks l _ _ _ hl.2 hB.2 hS hK)
    · rw [hk] at hB
      simp only [Bool.false_eq_true, if_false, decide_eq_true_eq] at hB
      refine wpAnyS_only h0 hB.1 ?_
      have hm := wpOp_of_one h0 h
      have := wpOp_only (R' := fun a' w' => S w' ∧ wpAnyS P md ops (OnlyNormal K) S ks.length (listed.setIfInBounds k true) a' w') (K' := fun a' w' => OnlyNormal (fun a' w' => S w' ∧ wpAnyS P md ops (OnlyNormal K) S ks.length (listed.setIfInBounds k true) a' w') .normal a' w')
        (fun a' w' h' => ⟨rfl, h'.2.1, wpAnyS_mix hsel ks l _ _ _ hl.2 hB.2 h'.2.1 h'.2.2⟩) hm
      unfold wpOp at this
      simp only [h0] at this
      exact this
theorem mixW_head {C : World → Prop} {K : Act → World → Prop} {o : Oper} {rest : List Oper} {a : Act} {w : World} (hk : headOk2 o = true) (h : wpQuiet P ops C (fun a' => mixW P ops S C K rest a' w) [o] a) : mixW P ops S C K (o :: rest) a w := .inl ⟨hk, h⟩
theorem mixW_step {C : World → Prop} {K : Act → World → Prop} {o : Oper} {rest : List Oper} {a : Act} {w : World} (hk : headOk2 o = false) (h : wpList P ops (OnlyNormal fun a' w' => S w' ∧ mixW P ops S C K rest a' w') [o] a w) : mixW P ops S C K (o :: rest) a w := .inr ⟨hk, h⟩
/-- With the cells' facts as rules. -/
theorem wpAnyS_mix_fam {K : Act → World → Prop} {l : List Oper} {listed : Array Bool} {a : Act} {w : World} {f : Nat} (ks : List Nat) (hf : f = ks.length) (hsel : Region.noSelect ops = true) (hl : ks.map (fun k => ops[k]?) = l.map some) (hB : mixB md ops ks listed = true) (hS : S w)
    (h : ∀ (I : Type) (_ : Nonempty I) (F : I → World), (∀ i, S (F i)) → mixW P ops S (fun w' => ∃ i, w' = F i) K l a w) : wpAnyS P md ops (OnlyNormal K) S f listed a w := by
  subst hf
  refine wpAnyS_mix hsel ks l listed a w hl hB hS ?_
  have := h {w' : World // S w'} ⟨⟨w, hS⟩⟩ (fun i => i.1) (fun i => i.2)
  rwa [class_eq S] at this
def pickOps (l : List Oper) (ks : List Nat) : List Oper := ks.filterMap (l[·]?)
theorem pickOps_map (l : List Oper) : ∀ (ks : List Nat), (ks.all fun k => decide (k < l.length)) = true → ks.map (fun k => l.toArray[k]?) = (pickOps l ks).map some
  | [], _ => rfl
  | k :: ks, h => by
    simp only [List.all_cons, Bool.and_eq_true, decide_eq_true_eq] at h
    have ih := pickOps_map l ks h.2
    unfold pickOps at ih ⊢
    rw [List.filterMap_cons, List.map_cons, ih]
    simp [List.getElem?_eq_getElem h.1]
theorem wpAnyS_mix_lit {K : Act → World → Prop} {l : List Oper} {listed : Array Bool} {a : Act} {w : World} {f : Nat} (ks : List Nat) (hf : f = ks.length) (hk : (ks.all fun k => decide (k < l.length)) = true) (hsel : Region.noSelect l.toArray = true) (hB : mixB md l.toArray ks listed = true) (hS : S w)
    (h : ∀ (I : Type) (_ : Nonempty I) (F : I → World), (∀ i, S (F i)) → mixW P l.toArray S (fun w' => ∃ i, w' = F i) K (pickOps l ks) a w) : wpAnyS P md l.toArray (OnlyNormal K) S f listed a w :=
  wpAnyS_mix_fam ks hf hsel (pickOps_map l ks hk) hB hS h
/-- The beginning. -/
theorem wp_region_S {id : Nat} {Q : Exit → Act → World → Prop} {a : Act} {w : World} (S : World → Prop) (hm : P.follows .mixedOrders = true) (h : wpAnyS P .any ops (OnlyNormal (Q .normal)) S ops.size (Array.replicate ops.size false) a w.drew) : (Code.region id ops true).wp P Q a w :=
  Code.wp_mono (fun e a w h => by obtain ⟨rfl, h⟩ := h; exact h) (wp_region_any (Q := OnlyNormal (Q .normal)) hm (wpAny_of_S _ _ _ _ h))
end
end Go.Proofs.YtplcjgpmainbnaaDoor.QTail
