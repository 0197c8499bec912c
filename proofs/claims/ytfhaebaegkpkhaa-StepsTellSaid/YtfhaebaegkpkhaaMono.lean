/- A region that draws its order, each of whose operations only adds to memory (reads, literals, calls that make memory): whatever the order, each slot holds what is said of it. -/
import Derived.Test.YtfhaebaegkpkhaaQTail
set_option linter.unusedVariables false
set_option linter.unusedSimpArgs false
namespace Go.Proofs.Ytfhaebaegkpkhaa.Mono
open Go Go.RowKit QTail
/-- What is said of a value, and stays true while memory grows. -/
structure MPred where
  p : World → Value → Prop
  mono : ∀ w w' v, p w v → Below w.heap.size w w' → p w' v
def MPred.eq (c : Value) : MPred := ⟨fun _ v => v = c, fun _ _ _ h _ => h⟩
def MPred.any : MPred := ⟨fun _ _ => True, fun _ _ _ h _ => h⟩
def putAll : List Oper → (Nat → Value) → Nat → Act → Act
  | [], _, _, a => a
  | o :: r, us, k, a => putAll r us (k + 1) (a.put o.dst (us k))
theorem put_comm {a : Act} {d e : Tmp} (h : d ≠ e) (u v : Value) : (a.put (some d) u).put (some e) v = (a.put (some e) v).put (some d) u := by
  simp only [Act.put]
  rw [Array.setIfInBounds_comm _ _ h]
theorem put_put (a : Act) (d : Tmp) (u v : Value) : (a.put (some d) u).put (some d) v = a.put (some d) v := by
  simp [Act.put]
theorem put_self (a : Act) (d : Tmp) : a.put (some d) (a.tmps.getD d undef) = a := by
  simp only [Act.put]
  congr 1
  apply Array.ext
  · simp
  · intro i h1 h2
    by_cases h : d = i
    · subst h
      simp [h2]
    · exact Array.getElem_setIfInBounds_ne h2 h
def dsts (l : List Oper) : List (Option Tmp) := l.map (·.dst)
theorem putAll_put {d : Tmp} {v : Value} : ∀ (l : List Oper) (us : Nat → Value) (k : Nat) (a : Act), (∀ o ∈ l, ∃ e, o.dst = some e ∧ e ≠ d) → (putAll l us k a).put (some d) v = putAll l us k (a.put (some d) v)
  | [], _, _, _, _ => rfl
  | o :: r, us, k, a, h => by
    obtain ⟨e, he, hne⟩ := h o (by simp)
    show (putAll r us (k + 1) (a.put o.dst (us k))).put (some d) v = putAll r us (k + 1) ((a.put (some d) v).put o.dst (us k))
    rw [putAll_put r us (k + 1) _ (fun o' ho' => h o' (by simp [ho'])), he, put_comm hne]
theorem putAll_congr : ∀ (l : List Oper) (us us' : Nat → Value) (k : Nat) (a : Act), (∀ j, k ≤ j → us j = us' j) → putAll l us k a = putAll l us' k a
  | [], _, _, _, _, _ => rfl
  | o :: r, us, us', k, a, h => by
    show putAll r us (k + 1) _ = putAll r us' (k + 1) _
    rw [h k (Nat.le_refl _), putAll_congr r us us' (k + 1) _ (fun j hj => h j (by omega))]
def upd (us : Nat → Value) (i : Nat) (v : Value) : Nat → Value := fun j => if j = i then v else us j
def okB : List Oper → Bool
  | [] => true
  | o :: r => o.dst.isSome && r.all (fun o' => o'.dst != o.dst) && okB r
theorem putAll_upd : ∀ (l : List Oper) (us : Nat → Value) (k i : Nat) (a : Act) (o : Oper) (v : Value), okB l = true → l[i]? = some o → (putAll l us k a).put o.dst v = putAll l (upd us (k + i) v) k a
  | [], _, _, _, _, _, _, _, h => by simp at h
  | o :: r, us, k, 0, a, o', v, hB, h => by
    obtain rfl : o = o' := by simpa using h
    simp only [okB, Bool.and_eq_true] at hB
    obtain ⟨d, hd⟩ := Option.isSome_iff_exists.1 hB.1.1
    show (putAll r us (k + 1) (a.put o.dst (us k))).put o.dst v = putAll r (upd us (k + 0) v) (k + 1) (a.put o.dst (upd us (k + 0) v k))
    have hne : ∀ o' ∈ r, ∃ e, o'.dst = some e ∧ e ≠ d := fun o' ho' => by
      have h1 := List.all_eq_true.1 hB.1.2 o' ho'
      have h2 : okB r = true := hB.2
      have h3 : o'.dst.isSome = true := by
        clear h1 h
        induction r with
        | nil => cases ho'
        | cons x r ih =>
          simp only [okB, Bool.and_eq_true] at h2
          rcases List.mem_cons.1 ho' with rfl | hm
          · exact h2.1.1
          · exact ih ⟨⟨hB.1.1, by have := hB.1.2; simp only [List.all_cons, Bool.and_eq_true] at this; exact this.2⟩, h2.2⟩ hm h2.2
      obtain ⟨e, he⟩ := Option.isSome_iff_exists.1 h3
      refine ⟨e, he, fun hed => ?_⟩
      rw [he, hd, hed] at h1
      simp at h1
    rw [hd, putAll_put r us (k + 1) _ hne, put_put, show upd us (k + 0) v k = v by simp [upd]]
    exact putAll_congr r _ _ _ _ (fun j hj => by simp [upd]; omega)
  | o :: r, us, k, i + 1, a, o', v, hB, h => by
    simp only [okB, Bool.and_eq_true] at hB
    show (putAll r us (k + 1) (a.put o.dst (us k))).put o'.dst v = putAll r (upd us (k + (i + 1)) v) (k + 1) (a.put o.dst (upd us (k + (i + 1)) v k))
    rw [putAll_upd r us (k + 1) i _ o' v hB.2 (by simpa using h), show k + 1 + i = k + (i + 1) by omega, show upd us (k + (i + 1)) v k = us k by simp [upd]]
def oldV (l : List Oper) (a : Act) (i : Nat) : Value := match l[i]? with | some o => (match o.dst with | some d => a.tmps.getD d undef | none => undef) | none => undef
theorem putAll_old (l0 : List Oper) (a : Act) : ∀ (l : List Oper) (k : Nat), okB l = true → (∀ j, l[j]? = l0[k + j]?) → putAll l (oldV l0 a) k a = a
  | [], _, _, _ => rfl
  | o :: r, k, hB, h => by
    simp only [okB, Bool.and_eq_true] at hB
    obtain ⟨d, hd⟩ := Option.isSome_iff_exists.1 hB.1.1
    show putAll r (oldV l0 a) (k + 1) (a.put o.dst (oldV l0 a k)) = a
    have h0 : l0[k]? = some o := by simpa using (h 0).symm
    have : oldV l0 a k = a.tmps.getD d undef := by unfold oldV; rw [h0]; simp only [hd]
    rw [this, hd, put_self]
    exact putAll_old l0 a r (k + 1) hB.2 (fun j => by have := h (j + 1); simpa [Nat.add_assoc, Nat.add_comm 1 j] using this)
def unl (listed : Array Bool) (n : Nat) : Nat := (List.range n).countP fun j => !listed.getD j false
theorem unl_ge (listed : Array Bool) (i : Nat) : ∀ n, n ≤ i → unl (listed.setIfInBounds i true) n = unl listed n
  | 0, _ => rfl
  | n + 1, h => by
    unfold unl
    rw [List.range_succ, List.countP_append, List.countP_append]
    have := unl_ge listed i n (by omega)
    unfold unl at this
    rw [this]
    simp only [List.countP_cons, List.countP_nil]
    rw [getD_set_ne false (show i ≠ n by omega)]
theorem unl_set (listed : Array Bool) (i : Nat) (hi : i < listed.size) (h : listed.getD i false = false) : ∀ n, i < n → unl listed n = unl (listed.setIfInBounds i true) n + 1
  | 0, h => by omega
  | n + 1, hn => by
    unfold unl
    rw [List.range_succ, List.countP_append, List.countP_append]
    simp only [List.countP_cons, List.countP_nil]
    by_cases hin : i = n
    · subst hin
      have := unl_ge listed i i (Nat.le_refl _)
      unfold unl at this
      have h2 : (listed.setIfInBounds i true).getD i false = true := by simp [hi]
      rw [this, h, h2]
      simp
    · have := unl_set listed i hi h n (by omega)
      unfold unl at this
      rw [this, getD_set_ne false hin]
      omega
theorem unl_pos {listed : Array Bool} {n i : Nat} (hi : i < n) (h : listed.getD i false = false) : 0 < unl listed n := by
  unfold unl
  rw [List.countP_pos_iff]
  exact ⟨i, List.mem_range.2 hi, by rw [h]; rfl⟩
def depB (o : Oper) (j : Nat) : Bool := o.after.any fun e => Region.binds .any e && e.on == j
def undB (l : List Oper) (i j : Nat) : Bool := match l[j]? with | some oj => depB oj i | none => false
/-- Edges point back; no guards. -/
def backB (l : List Oper) : Bool := (List.range l.length).all fun i => match l[i]? with | some o => o.guard.isNone && o.after.all (fun e => !(Region.binds .any e) || decide (e.on < i)) | none => true
section
variable {P : Program}
def obl (P : Program) (l : List Oper) (a0 : Act) (A : (Nat → Value) → Act) (w0 : World) (Φ : List MPred) (i : Nat) (o : Oper) : Prop :=
  ∀ (us : Nat → Value) (w : World), Below w0.heap.size w0 w → (∀ j, depB o j = true → (Φ.getD j .any).p w (us j)) → (∀ j, undB l i j = true → us j = oldV l a0 j) →
    wpList P l.toArray (OnlyNormal fun a' w' => ∃ v, a' = (A us).put o.dst v ∧ (Φ.getD i .any).p w' v ∧ Below w.heap.size w w') [o] (A us) w
def obls (P : Program) (l0 : List Oper) (a0 : Act) (A : (Nat → Value) → Act) (w0 : World) (Φ : List MPred) : List Oper → Nat → Prop
  | [], _ => True
  | o :: r, k => obl P l0 a0 A w0 Φ k o ∧ obls P l0 a0 A w0 Φ r (k + 1)
theorem obls_get {l0 : List Oper} {a0 : Act} {A : (Nat → Value) → Act} {w0 : World} {Φ : List MPred} : ∀ (l : List Oper) (k i : Nat) (o : Oper), obls P l0 a0 A w0 Φ l k → l[i]? = some o → obl P l0 a0 A w0 Φ (k + i) o
  | [], _, _, _, _, h => by simp at h
  | x :: r, k, 0, o, h, hi => by obtain rfl : x = o := by simpa using hi
                                 exact h.1
  | x :: r, k, i + 1, o, h, hi => by
    have := obls_get r (k + 1) i o h.2 (by simpa using hi)
    rwa [show k + 1 + i = k + (i + 1) by omega] at this
theorem mono_any {Q : Exit → Act → World → Prop} {l : List Oper} {a0 : Act} {w0 : World} {Φ : List MPred} (hok : okB l = true) (hback : backB l = true)
    (hob : ∀ i o, l[i]? = some o → obl P l a0 (fun us => putAll l us 0 a0) w0 Φ i o)
    (hQ : ∀ us w', Below w0.heap.size w0 w' → (∀ i, i < l.length → (Φ.getD i .any).p w' (us i)) → Q .normal (putAll l us 0 a0) w') :
    ∀ (f : Nat) (listed : Array Bool) (us : Nat → Value) (w : World), listed.size = l.length → unl listed l.length = f → Below w0.heap.size w0 w →
      (∀ i, i < l.length → listed.getD i false = true → (Φ.getD i .any).p w (us i)) → (∀ i, i < l.length → listed.getD i false = false → us i = oldV l a0 i) →
      (∀ j oj, l[j]? = some oj → listed.getD j false = true → ∀ e ∈ oj.after, Region.binds .any e = true → listed.getD e.on false = true) →
      wpAny P .any l.toArray (OnlyNormal (Q .normal)) f listed (putAll l us 0 a0) w := by
  have hready : ∀ listed : Array Bool, listed.size = l.length → Region.ready .any l.toArray listed = [] → ∀ i, i < l.length → listed.getD i false = true := by
    intro listed hsz hr i
    induction i using Nat.strongRecOn with
    | ind i ih =>
      intro hi
      cases hl : listed.getD i false with
      | true => rfl
      | false =>
        exfalso
        have hb := List.all_eq_true.1 hback i (List.mem_range.2 hi)
        rw [List.getElem?_eq_getElem hi] at hb
        simp only [Bool.and_eq_true] at hb
        have hm : i ∈ Region.ready .any l.toArray listed := mem_ready.2 ⟨getD_in (by omega) hl, l[i], by simp [hi], fun e he hbe => by
          have h1 := Array.all_eq_true_iff_forall_mem.1 hb.2 e he
          rw [hbe] at h1
          simp only [Bool.not_true, Bool.false_or, decide_eq_true_eq] at h1
          exact ih e.on h1 (by omega)⟩
        rw [hr] at hm
        cases hm
  intro f
  induction f with
  | zero =>
    intro listed us w hsz hu hbe hΦ hold hcl
    have hall : ∀ i, i < l.length → listed.getD i false = true := fun i hi => by
      cases hl : listed.getD i false with
      | true => rfl
      | false => have := unl_pos hi hl; omega
    refine ⟨?_, rfl, hQ us w hbe fun i hi => hΦ i hi (hall i hi)⟩
    cases hr : Region.ready .any l.toArray listed with
    | nil => rfl
    | cons j t =>
      have hj : j ∈ Region.ready .any l.toArray listed := by rw [hr]; simp
      obtain ⟨h1, o, ho, -⟩ := mem_ready.1 hj
      have hjl : j < l.length := by have := (Array.getElem?_eq_some_iff.1 ho).1; simpa using this
      have := hall j hjl
      rw [getD_both h1] at this
      cases this
  | succ f ih =>
    intro listed us w hsz hu hbe hΦ hold hcl
    refine ⟨fun hr => ⟨rfl, hQ us w hbe fun i hi => hΦ i hi (hready listed hsz hr i hi)⟩, fun i hi => ?_⟩
    obtain ⟨h1, o, ho, hall⟩ := mem_ready.1 hi
    have hil : i < l.length := by have := (Array.getElem?_eq_some_iff.1 ho).1; simpa using this
    have ho' : l[i]? = some o := by simpa using ho
    have hfal := getD_both h1
    have hstep0 := hob i o ho' us w hbe (fun j hj => by
      obtain ⟨e, he, h2⟩ := Array.any_eq_true'.1 hj
      simp only [Bool.and_eq_true, beq_iff_eq] at h2
      have h3 := hall e he h2.1
      rw [h2.2] at h3
      have hb := List.all_eq_true.1 hback i (List.mem_range.2 hil)
      rw [ho'] at hb
      simp only [Bool.and_eq_true] at hb
      have h4 := Array.all_eq_true_iff_forall_mem.1 hb.2 e he
      rw [h2.1] at h4
      simp only [Bool.not_true, Bool.false_or, decide_eq_true_eq] at h4
      exact hΦ j (by omega) h3) (fun j hj => by
      unfold undB at hj
      cases hlj : l[j]? with
      | none => rw [hlj] at hj; cases hj
      | some oj =>
        rw [hlj] at hj
        simp only at hj
        obtain ⟨e, he, h2⟩ := Array.any_eq_true'.1 hj
        simp only [Bool.and_eq_true, beq_iff_eq] at h2
        have hjl : j < l.length := (List.getElem?_eq_some_iff.1 hlj).1
        refine hold j hjl ?_
        cases hl : listed.getD j false with
        | false => rfl
        | true =>
          have := hcl j oj hlj hl e he h2.1
          rw [h2.2, hfal] at this
          cases this)
    have hstep : wpList P l.toArray (OnlyNormal fun a' w' => ∃ v, a' = (putAll l us 0 a0).put o.dst v ∧ (Φ.getD i .any).p w' v ∧ Below w.heap.size w w') [o] (putAll l us 0 a0) w := hstep0
    refine wpOp_only (fun a' w' h' => ?_) (wpOp_of_one ho hstep)
    obtain ⟨-, v, rfl, hv, hb'⟩ := h'
    have hne : ∀ j, j ≠ i → (listed.setIfInBounds i true).getD j false = listed.getD j false := fun j hj => getD_set_ne false (Ne.symm hj)
    have hii : (listed.setIfInBounds i true).getD i false = true := by simp [hsz, hil]
    rw [putAll_upd l us 0 i a0 o v hok ho', Nat.zero_add]
    refine ih _ _ w' (by simpa using hsz) ?_ (hbe.trans (hb'.mono hbe.size)) (fun j hj hlj => ?_) (fun j hj hlj => ?_) (fun j oj hlj hl e he hbn => ?_)
    · have := unl_set listed i (by omega) hfal l.length hil
      omega
    · by_cases hji : j = i
      · subst hji; simpa [upd] using hv
      · rw [hne j hji] at hlj
        have := (Φ.getD j .any).mono _ _ _ (hΦ j hj hlj) hb'
        simpa [upd, hji] using this
    · by_cases hji : j = i
      · subst hji; rw [hii] at hlj; cases hlj
      · rw [hne j hji] at hlj
        simpa [upd, hji] using hold j hj hlj
    · by_cases hji : j = i
      · subst hji
        have : oj = o := by rw [ho'] at hlj; exact (Option.some.inj hlj).symm
        subst this
        have h5 := hall e he hbn
        exact getD_set_true h5
      · rw [hne j hji] at hl
        exact getD_set_true (hcl j oj hlj hl e he hbn)
/-- The law. -/
theorem wp_region_mono {id : Nat} {Q : Exit → Act → World → Prop} {a : Act} {w : World} {l : List Oper} (Φ : List MPred) (A : (Nat → Value) → Act) (hm : P.follows .mixedOrders = true) (hB : (okB l && backB l) = true) (hA : ∀ us, putAll l us 0 a = A us)
    (hob : obls P l a A w.drew Φ l 0)
    (hQ : ∀ us w', Below w.heap.size w w' → (∀ i, i < l.length → (Φ.getD i .any).p w' (us i)) → Q .normal (A us) w') : (Code.region id l.toArray true).wp P Q a w := by
  obtain rfl : (fun us => putAll l us 0 a) = A := funext hA
  simp only [Bool.and_eq_true] at hB
  have hd : Below w.heap.size w w.drew := ⟨rfl, rfl, rfl, Nat.le_refl _, fun _ _ => rfl⟩
  refine Code.wp_mono (fun e a w h => by obtain ⟨rfl, h⟩ := h; exact h) (wp_region_any (Q := OnlyNormal (Q .normal)) hm ?_)
  have h1 := mono_any (Q := Q) (a0 := a) (w0 := w.drew) hB.1 hB.2 (fun i o hi => by have := obls_get l 0 i o hob hi; rwa [Nat.zero_add] at this) (fun us w' h h' => hQ us w' (hd.trans h) h') l.length (Array.replicate l.length false) (oldV l a) w.drew (by simp)
    (by
      unfold unl
      rw [List.countP_eq_length.2 (fun j _ => by rw [getD_replicate_false]; rfl), List.length_range]) (Below.refl _ _) (fun i _ h => by rw [getD_replicate_false] at h; cases h) (fun i _ _ => rfl) (fun j oj _ h => by rw [getD_replicate_false] at h; cases h)
  rw [putAll_old l a l 0 hB.1 (fun j => by simp)] at h1
  simpa using h1
end
end Go.Proofs.Ytfhaebaegkpkhaa.Mono
