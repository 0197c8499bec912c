/- A region that draws its order: some numbers in an order of one's own, then a set of numbers in whatever order, then on. -/
import Derived.Test.YtfhaebaegkpkhaaQTail
set_option linter.unusedVariables false
set_option linter.unusedSimpArgs false
namespace Go.Proofs.Ytfhaebaegkpkhaa.QTail
open Go
section
variable {P : Program} {ops : Array Oper} {md : Region.Mode} {S : World → Prop} {need : Nat → Bool}
/-- Nothing is held. -/
def AnyW (_ : World) : Prop := True
theorem anyW (w : World) : AnyW w := trivial
def mixB0 (md : Region.Mode) (ops : Array Oper) : List Nat → Array Bool → Bool
  | [], _ => true
  | k :: ks, listed => (if (ops[k]?.map headOk2).getD false then (Region.ready md ops listed).contains k && Region.free md ops listed k else decide (Region.ready md ops listed = [k])) && mixB0 md ops ks (listed.setIfInBounds k true)
def after : Array Bool → List Nat → Array Bool
  | listed, [] => listed
  | listed, k :: ks => after (listed.setIfInBounds k true) ks
theorem wpAnyN_mix0 {K : Act → World → Prop} (hsel : Region.noSelect ops = true) (f : Nat) : ∀ (ks : List (Nat × Oper)) (listed : Array Bool) (a : Act) (w : World), (∀ x ∈ ks, ops[x.1]? = some x.2) → mixB0 md ops (ks.map (·.1)) listed = true →
    mixN P ops S S need (sinkN need md ops) (fun a' w' => wpAnyN P md ops (OnlyNormal K) S need f (after listed (ks.map (·.1))) a' w') ks a w → wpAnyN P md ops (OnlyNormal K) S need (ks.length + f) listed a w
  | [], listed, a, w, _, hB, h => by rw [List.length_nil, Nat.zero_add]; exact h
  | (k, o) :: ks, listed, a, w, hl, hB, h => by
    have h0 : ops[k]? = some o := hl (k, o) (by simp)
    have hl' : ∀ x ∈ ks, ops[x.1]? = some x.2 := fun x hx => hl x (by simp [hx])
    rw [show ((k, o) :: ks).length + f = (ks.length + f) + 1 by simp; omega]
    simp only [List.map_cons, mixB0, h0, Option.map_some, Option.getD_some, Bool.and_eq_true] at hB
    rcases h with ⟨hk, hn, hS, h⟩ | ⟨hk, hn, h⟩ | ⟨hk, h⟩
    · rw [if_pos hk, Bool.and_eq_true] at hB
      have hst : qOp P ops S k (fun a' => mixN P ops S S need (sinkN need md ops) (fun a' w' => wpAnyN P md ops (OnlyNormal K) S need f (after listed (((k, o) :: ks).map (·.1))) a' w') ks a' w) a := by unfold qOp; simp only [h0]; exact h
      obtain ⟨v, hy, hK⟩ := yieldsIn_of_qOp h0 hst
      have hy' : YieldsIf P ops (fun w => need k = true → S w) o v a := (yieldsIf_of2 hk hy).imp (fun ⟨e1, e2⟩ => ⟨e1, fun w hw => e2 w (hw hn)⟩) id
      exact wpAnyN_first h0 (Region.noSelect_spec hsel) (fun c a w h => absurd h.1 (by simp)) _ _ _ _ (Region.free_spec h0 hB.1.2) (by simpa using hB.1.1) hy' (fun _ => hS) (wpAnyN_mix0 hsel f ks _ _ _ hl' hB.2 hK)
    · rw [if_pos hk, Bool.and_eq_true] at hB
      have hst : qOp P ops (fun w' => ∃ i : World, w' = i) k (fun a' => mixN P ops S S need (sinkN need md ops) (fun a' w' => wpAnyN P md ops (OnlyNormal K) S need f (after listed (((k, o) :: ks).map (·.1))) a' w') ks a' w) a := by unfold qOp; simp only [h0]; exact h
      obtain ⟨v, hy, hK⟩ := yieldsIn_of_qOp h0 hst
      have hy' : YieldsIf P ops (fun w => need k = true → S w) o v a := (yieldsIf_of2 hk hy).imp (fun ⟨e1, e2⟩ => ⟨e1, fun w _ => e2 w ⟨w, rfl⟩⟩) id
      exact wpAnyN_first h0 (Region.noSelect_spec hsel) (fun c a w h => absurd h.1 (by simp)) _ _ _ _ (Region.free_spec h0 hB.1.2) (by simpa using hB.1.1) hy' (fun h => by rw [hn] at h; cases h) (wpAnyN_mix0 hsel f ks _ _ _ hl' hB.2 hK)
    · rw [hk] at hB
      simp only [Bool.false_eq_true, if_false, decide_eq_true_eq] at hB
      refine ⟨fun h1 => (by rw [hB.1] at h1; cases h1), fun i hi => ?_⟩
      rw [hB.1] at hi
      have hik : i = k := by simpa using hi
      subst hik
      exact wpOp_only (fun a' w' h' => ⟨fun _ => h'.2.1, wpAnyN_mix0 hsel f ks _ _ _ hl' hB.2 h'.2.2⟩) (wpOp_of_one h0 h)
/-- Which are done: those of base, and those of idx that are none of rs. -/
def Lof (base : Array Bool) (idx rs : List Nat) : Array Bool := Array.ofFn fun i : Fin base.size => base[i] || (idx.contains i.val && !rs.contains i.val)
theorem Lof_set (base : Array Bool) (idx rs : List Nat) (hs : ∀ i ∈ rs, i ∈ idx) (hn : rs.Nodup) {i : Nat} (hi : i ∈ rs) : (Lof base idx rs).setIfInBounds i true = Lof base idx (rs.erase i) := by
  refine Array.ext (by simp [Lof]) fun j h1 h2 => ?_
  rw [Array.getElem_setIfInBounds]
  · simp only [Lof, Array.getElem_ofFn]
    by_cases hij : i = j
    · subst hij
      have e1 : (rs.erase i).contains i = false := by
        rw [Bool.eq_false_iff]
        intro h
        rw [List.contains_iff_mem] at h
        exact (List.Nodup.not_mem_erase hn) h
      have e2 : idx.contains i = true := List.contains_iff_mem.2 (hs i hi)
      rw [if_pos rfl, e1, e2]
      simp
    · have e1 : (rs.erase i).contains j = rs.contains j := by
        rw [Bool.eq_iff_iff, List.contains_iff_mem, List.contains_iff_mem]
        exact List.mem_erase_of_ne (Ne.symm hij)
      rw [if_neg hij, e1]
  · simpa using h1
theorem anyN_set {K : Act → World → Prop} (base : Array Bool) (idx : List Nat) (Inv : List Nat → World → Prop) (a : Act) (f : Nat) (hn : idx.Nodup)
    (hready : ∀ rs, rs.Sublist idx → rs ≠ [] → Region.ready md ops (Lof base idx rs) = rs)
    (hstep : ∀ rs i w, rs.Sublist idx → i ∈ rs → Inv rs w → ∃ o, ops[i]? = some o ∧ wpList P ops (OnlyNormal fun a' w' => S w' ∧ a' = a ∧ Inv (rs.erase i) w') [o] a w)
    (hend : ∀ w, Inv [] w → wpAnyN P md ops (OnlyNormal K) S need f (Lof base idx []) a w) :
    ∀ (n : Nat) (rs : List Nat) (w : World), rs.length = n → rs.Sublist idx → Inv rs w → wpAnyN P md ops (OnlyNormal K) S need (n + f) (Lof base idx rs) a w := by
  intro n
  induction n with
  | zero =>
    intro rs w hl hs hI
    obtain rfl : rs = [] := List.eq_nil_of_length_eq_zero hl
    rw [Nat.zero_add]
    exact hend w hI
  | succ n ih =>
    intro rs w hl hs hI
    have hne : rs ≠ [] := fun e => by rw [e] at hl; cases hl
    rw [show n + 1 + f = (n + f) + 1 by omega]
    have hr := hready rs hs hne
    refine ⟨fun h1 => absurd (hr.symm.trans h1) hne, fun i hi => ?_⟩
    rw [hr] at hi
    obtain ⟨o, h0, hst⟩ := hstep rs i w hs hi hI
    have hnr : rs.Nodup := hs.nodup hn
    rw [Lof_set base idx rs (fun j hj => hs.subset hj) hnr hi]
    refine wpOp_only (fun a' w' h' => ⟨fun _ _ => h'.2.1, ?_⟩) (wpOp_of_one h0 hst)
    obtain ⟨-, -, ha, hI'⟩ := h'
    subst ha
    exact ih (rs.erase i) w' (by rw [List.length_erase_of_mem hi, hl]; omega) ((List.erase_sublist ..).trans hs) hI'
/-- The check of anyN_set, by the kernel. -/
def setB (md : Region.Mode) (ops : Array Oper) (base : Array Bool) (idx : List Nat) : Bool := (subs idx).all fun rs => rs.isEmpty || decide (Region.ready md ops (Lof base idx rs) = rs)
where
  subs : List Nat → List (List Nat)
    | [] => [[]]
    | x :: l => (subs l).flatMap fun s => [s, x :: s]
theorem mem_subs : ∀ {idx rs : List Nat}, rs.Sublist idx → rs ∈ setB.subs idx
  | _, _, .slnil => List.mem_cons_self ..
  | _, _, .cons x h => List.mem_flatMap.2 ⟨_, mem_subs h, List.mem_cons_self ..⟩
  | _, _, .cons_cons x h => List.mem_flatMap.2 ⟨_, mem_subs h, List.mem_cons_of_mem _ (List.mem_cons_self ..)⟩
theorem setB_spec {base : Array Bool} {idx : List Nat} (h : setB md ops base idx = true) : ∀ rs, rs.Sublist idx → rs ≠ [] → Region.ready md ops (Lof base idx rs) = rs := fun rs hs hne => by
  have := List.all_eq_true.1 h rs (mem_subs hs)
  simp only [Bool.or_eq_true, List.isEmpty_iff, decide_eq_true_eq] at this
  exact this.resolve_left hne
theorem anyN_done {K : Act → World → Prop} {listed : Array Bool} {a : Act} {w : World} (hr : Region.ready md ops listed = []) (h : K a w) : wpAnyN P md ops (OnlyNormal K) S need 0 listed a w := ⟨hr, rfl, h⟩
/-- The beginning. -/
theorem wp_region_N {id : Nat} {Q : Exit → Act → World → Prop} {a : Act} {w : World} (S : World → Prop) (need : Nat → Bool) (hm : P.follows .mixedOrders = true)
    (h : wpAnyN P .any ops (OnlyNormal (Q .normal)) S need ops.size (Array.replicate ops.size false) a w.drew) : (Code.region id ops true).wp P Q a w :=
  Code.wp_mono (fun e a w h => by obtain ⟨rfl, h⟩ := h; exact h) (wp_region_any (Q := OnlyNormal (Q .normal)) hm (wpAny_of_N (S := S) (need := need) _ _ _ _ h))
/-- All of a set, in whatever order. -/
theorem anyN_set_at {K : Act → World → Prop} {listed : Array Bool} {a : Act} {w : World} (idx : List Nat) (Inv : List Nat → World → Prop) (f n : Nat) (hl : n = idx.length + f) (hn : decide idx.Nodup = true) (hL : listed = Lof listed idx idx) (hB : setB md ops listed idx = true) (hI : Inv idx w)
    (hstep : ∀ rs i w, rs.Nodup → i ∈ idx → i ∈ rs → Inv rs w → ∃ o, ops[i]? = some o ∧ wpList P ops (OnlyNormal fun a' w' => S w' ∧ a' = a ∧ Inv (rs.erase i) w') [o] a w)
    (hend : ∀ w, Inv [] w → wpAnyN P md ops (OnlyNormal K) S need f (Lof listed idx []) a w) : wpAnyN P md ops (OnlyNormal K) S need n listed a w := by
  subst hl
  have hn' := of_decide_eq_true hn
  have := anyN_set (P := P) (md := md) (ops := ops) (S := S) (need := need) (K := K) listed idx Inv a f hn' (setB_spec hB) (fun rs i w hs hi h => hstep rs i w (hs.nodup hn') (hs.subset hi) hi h) hend idx.length idx w rfl (List.Sublist.refl _) hI
  rwa [← hL] at this
/-- Some numbers in an order of one's own, then on. -/
theorem anyN_mix_lit {K : Act → World → Prop} {l : List Oper} {listed : Array Bool} {a : Act} {w : World} (ks : List Nat) (f n : Nat) (hn : n = ks.length + f) (hk : (ks.all fun k => decide (k < l.length)) = true) (hsel : Region.noSelect l.toArray = true)
    (hB : mixB0 md l.toArray ks listed = true) (hS : S w)
    (h : ∀ (I : Type) (_ : Nonempty I) (F : I → World), (∀ i, S (F i)) → mixN P l.toArray S (fun w' => ∃ i, w' = F i) need (sinkN need md l.toArray) (fun a' w' => wpAnyN P md l.toArray (OnlyNormal K) S need f (after listed ks) a' w') (pairOps l ks) a w) :
    wpAnyN P md l.toArray (OnlyNormal K) S need n listed a w := by
  subst hn
  have h1 := h {w' : World // S w'} ⟨⟨w, hS⟩⟩ (fun i => i.1) (fun i => i.2)
  rw [class_eq S] at h1
  have e : (pairOps l ks).map (·.1) = ks := pairOps_fst l ks hk
  have h2 := wpAnyN_mix0 (md := md) (S := S) (need := need) (K := K) hsel f (pairOps l ks) listed a w (pairOps_at l ks) (by rw [e]; exact hB) (by rw [e]; exact h1)
  rwa [show (pairOps l ks).length = ks.length by rw [← congrArg List.length e, List.length_map]] at h2
/-- The whole region's beginning so. -/
theorem wp_region_mix0 {id : Nat} {Q : Exit → Act → World → Prop} {a : Act} {w : World} {l : List Oper} (S : World → Prop) (need : Nat → Bool) (ks : List Nat) (f : Nat) (hm : P.follows .mixedOrders = true) (hlen : l.length = ks.length + f) (hk : (ks.all fun k => decide (k < l.length)) = true) (hsel : Region.noSelect l.toArray = true)
    (hB : mixB0 .any l.toArray ks (Array.replicate l.length false) = true) (hS : S w.drew)
    (h : ∀ (I : Type) (_ : Nonempty I) (F : I → World), (∀ i, S (F i)) → mixN P l.toArray S (fun w' => ∃ i, w' = F i) need (sinkN need .any l.toArray) (fun a' w' => wpAnyN P .any l.toArray (OnlyNormal (Q .normal)) S need f (after (Array.replicate l.length false) ks) a' w') (pairOps l ks) a w.drew) : (Code.region id l.toArray true).wp P Q a w :=
  wp_region_N S need hm (by
    have := anyN_mix_lit (P := P) (md := .any) (S := S) (need := need) (K := Q .normal) (a := a) ks f l.length hlen hk hsel hB hS h
    simpa using this)
end
end Go.Proofs.Ytfhaebaegkpkhaa.QTail
