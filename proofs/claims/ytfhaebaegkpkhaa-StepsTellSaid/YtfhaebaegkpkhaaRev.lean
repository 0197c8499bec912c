/- Reversing rows in place: what the cells hold, round by round; and the load of a row in a quiet walk. -/
import Derived.Test.YtfhaebaegkpkhaaOwn
import Derived.Test.YtfhaebaegkpkhaaQTail
import Derived.Deep.MidRow
set_option linter.unusedVariables false
set_option linter.unusedSimpArgs false
namespace Go.Proofs.Ytfhaebaegkpkhaa.RevL
open Go Go.RowKit OwnS
theorem wpQuiet_load_mid {P : Program} {ops : Array Oper} {C : World → Prop} {Q : Act → Prop} {rest : List Oper} {op : Oper} {a : Act} (hgd : op.guard = none) (ty : TypeId) (x : Operand) (ho : op.op = .load ty x)
    (b o : Nat) (hx : a.eval x = .pointer (some ⟨b, o, none⟩)) (cs : List Value) (d : TypeDesc) (hS : ∀ w, C w → w.rangeAt b o cs)
    (hu : P.underlying ty = some d) (hd : d.isRow = true) (hi : (P.info? ty).map (·.size) = some cs.length)
    (h : wpQuiet P ops C Q rest (a.put op.dst (.agg cs.toArray))) : wpQuiet P ops C Q (op :: rest) a := by
  have hw : Region.wanted op (yielded ops a.tmps) = true := by simp [Region.wanted, hgd]
  unfold wpQuiet
  rw [if_pos hw]
  refine ⟨_, fun w hw' => ?_, h⟩
  unfold Oper.quietAt execOp
  simp only [ho, hx, Instr.loadAt, Instr.sureAddr, Sem.run_bind, Sem.run_pure, Result.andThen_ok, run_loadVar_mid w b o ty cs d (hS w hw') hu hd hi]
  exact ⟨rfl, rfl⟩
theorem wpQuiet_load_mid_w {P : Program} {ops : Array Oper} {C : World → Prop} {Q : Act → Prop} {rest : List Oper} {op : Oper} {a : Act} (hw : Region.wanted op (yielded ops a.tmps) = true) (ty : TypeId) (x : Operand) (ho : op.op = .load ty x)
    (b o : Nat) (hx : a.eval x = .pointer (some ⟨b, o, none⟩)) (cs : List Value) (d : TypeDesc) (hS : ∀ w, C w → w.rangeAt b o cs)
    (hu : P.underlying ty = some d) (hd : d.isRow = true) (hi : (P.info? ty).map (·.size) = some cs.length)
    (h : wpQuiet P ops C Q rest (a.put op.dst (.agg cs.toArray))) : wpQuiet P ops C Q (op :: rest) a := by
  unfold wpQuiet
  rw [if_pos hw]
  refine ⟨_, fun w hw' => ?_, h⟩
  unfold Oper.quietAt execOp
  simp only [ho, hx, Instr.loadAt, Instr.sureAddr, Sem.run_bind, Sem.run_pure, Result.andThen_ok, run_loadVar_mid w b o ty cs d (hS w hw') hu hd hi]
  exact ⟨rfl, rfl⟩
section
variable {α : Type} {enc : α → List Value} {s : Nat} {ds : List α} {w : World} {g o : Nat}
theorem rangeAt_append {xs ys : List Value} : w.rangeAt g o (xs ++ ys) ↔ w.rangeAt g o xs ∧ w.rangeAt g (o + xs.length) ys := by
  constructor
  · intro h
    refine ⟨fun j u hj => h j u ?_, fun j u hj => ?_⟩
    · have := (List.getElem?_eq_some_iff.1 hj).1
      rw [List.getElem?_append_left this]; exact hj
    · have := h (xs.length + j) u (by rw [List.getElem?_append_right (by omega), Nat.add_sub_cancel_left]; exact hj)
      rwa [← Nat.add_assoc] at this
  · rintro ⟨h1, h2⟩ j u hj
    by_cases hl : j < xs.length
    · rw [List.getElem?_append_left hl] at hj
      exact h1 j u hj
    · rw [List.getElem?_append_right (by omega)] at hj
      have := h2 _ u hj
      rwa [show o + xs.length + (j - xs.length) = o + j by omega] at this
theorem rangeAt_flat : ∀ {ds : List α} {o : Nat}, (∀ d ∈ ds, (enc d).length = s) → (∀ k d, ds[k]? = some d → w.rangeAt g (o + k * s) (enc d)) → w.rangeAt g o (ds.map enc).flatten
  | [], _, _, _ => fun j u hj => by simp at hj
  | d :: ds, o, hs, h => by
    rw [List.map_cons, List.flatten_cons]
    refine rangeAt_append.2 ⟨by simpa using h 0 d rfl, ?_⟩
    rw [hs d (by simp)]
    refine rangeAt_flat (fun x hx => hs x (by simp [hx])) fun k x hk => ?_
    have := h (k + 1) x (by simpa using hk)
    rwa [Nat.succ_mul, Nat.add_comm (k * s) s, ← Nat.add_assoc] at this
theorem at_flat : ∀ {ds : List α} {o : Nat}, (∀ d ∈ ds, (enc d).length = s) → w.rangeAt g o (ds.map enc).flatten → ∀ k d, ds[k]? = some d → w.rangeAt g (o + k * s) (enc d)
  | [], _, _, _, k, d, hk => by simp at hk
  | d0 :: ds, o, hs, h, k, d, hk => by
    rw [List.map_cons, List.flatten_cons] at h
    have h' := rangeAt_append.1 h
    rw [hs d0 (by simp)] at h'
    match k, hk with
    | 0, hk => injection hk with hk; subst hk; simpa using h'.1
    | k + 1, hk =>
      have := at_flat (fun x hx => hs x (by simp [hx])) h'.2 k d (by simpa using hk)
      rwa [Nat.succ_mul, Nat.add_comm (k * s) s, ← Nat.add_assoc]
theorem flat_len : ∀ {ds : List α}, (∀ d ∈ ds, (enc d).length = s) → (ds.map enc).flatten.length = ds.length * s
  | [], _ => by simp
  | d :: ds, hs => by
    rw [List.map_cons, List.flatten_cons, List.length_append, hs d (by simp), flat_len (fun x hx => hs x (by simp [hx])), List.length_cons, Nat.succ_mul, Nat.add_comm]
/-- The first i and the last i are exchanged. -/
def RevAt (enc : α → List Value) (s : Nat) (ds : List α) (w : World) (g o i : Nat) : Prop :=
  ∀ k d, k < ds.length → (if k < i ∨ ds.length - i ≤ k then ds[ds.length - 1 - k]? else ds[k]?) = some d → w.rangeAt g (o + k * s) (enc d)
theorem RevAt.start (h : ∀ k d, ds[k]? = some d → w.rangeAt g (o + k * s) (enc d)) : RevAt enc s ds w g o 0 := fun k d hk hd => by
  rw [if_neg (by omega)] at hd
  exact h k d hd
theorem RevAt.two {i : Nat} (h : RevAt enc s ds w g o i) (hi : i < ds.length - 1 - i) : ∃ a b, ds[i]? = some a ∧ ds[ds.length - 1 - i]? = some b ∧ w.rangeAt g (o + i * s) (enc a) ∧ w.rangeAt g (o + (ds.length - 1 - i) * s) (enc b) := by
  have h1 : i < ds.length := by omega
  have h2 : ds.length - 1 - i < ds.length := by omega
  exact ⟨ds[i], ds[ds.length - 1 - i], List.getElem?_eq_getElem h1, List.getElem?_eq_getElem h2, h i _ h1 (by rw [if_neg (by omega)]; exact List.getElem?_eq_getElem h1), h _ _ h2 (by rw [if_neg (by omega)]; exact List.getElem?_eq_getElem h2)⟩
theorem RevAt.swap {i : Nat} (h : RevAt enc s ds w g o i) (hi : i < ds.length - 1 - i) (hs : ∀ d ∈ ds, (enc d).length = s) (ht : w.there g o (ds.length * s)) {a b : α} (ha : ds[i]? = some a) (hb : ds[ds.length - 1 - i]? = some b) :
    RevAt enc s ds ((w.setCells g (o + i * s) (enc b)).setCells g (o + (ds.length - 1 - i) * s) (enc a)) g o (i + 1) := by
  have la := hs a (List.mem_of_getElem? ha)
  have lb := hs b (List.mem_of_getElem? hb)
  have sep : ∀ {p q : Nat}, p < q → o + p * s + s ≤ o + q * s := fun {p q} hpq => by
    have := Nat.mul_le_mul_right s (show p + 1 ≤ q from hpq)
    rw [Nat.succ_mul] at this
    omega
  have th : ∀ p, p < ds.length → w.there g (o + p * s) s := fun p hp => by
    refine there_mono (there_drop (k := p * s) (n := (ds.length - p) * s) ?_) ?_
    · rw [← Nat.add_mul, show p + (ds.length - p) = ds.length by omega]; exact ht
    · have := Nat.mul_le_mul_right s (show 1 ≤ ds.length - p by omega)
      omega
  intro k d hk hd
  by_cases hki : k = i
  · subst hki
    rw [if_pos (by omega), hb] at hd
    injection hd with hd
    subst hd
    exact World.rangeAt_setCells_apart (World.rangeAt_setCells_same w g _ _ (by rw [lb]; exact th _ hk)) _ _ _ (by rw [lb]; exact .inr (.inl (sep hi)))
  · by_cases hkj : k = ds.length - 1 - i
    · subst hkj
      rw [if_pos (by omega), show ds.length - 1 - (ds.length - 1 - i) = i by omega, ha] at hd
      injection hd with hd
      subst hd
      exact World.rangeAt_setCells_same _ g _ _ (by rw [la]; exact World.there_setCells (th _ hk) _ _ _)
    · have hd' : (if k < i ∨ ds.length - i ≤ k then ds[ds.length - 1 - k]? else ds[k]?) = some d := by
        by_cases hc : k < i ∨ ds.length - i ≤ k
        · rw [if_pos hc]; rwa [if_pos (by omega)] at hd
        · rw [if_neg hc]; rwa [if_neg (by omega)] at hd
      have ld : (enc d).length = s := by
        split at hd' <;> exact hs d (List.mem_of_getElem? hd')
      have h0 := h k d hk hd'
      refine World.rangeAt_setCells_apart (World.rangeAt_setCells_apart h0 _ _ _ ?_) _ _ _ ?_
      · rw [ld, lb]
        rcases Nat.lt_or_gt_of_ne hki with h | h
        · exact .inr (.inl (sep h))
        · exact .inr (.inr (sep h))
      · rw [ld, la]
        rcases Nat.lt_or_gt_of_ne hkj with h | h
        · exact .inr (.inl (sep h))
        · exact .inr (.inr (sep h))
theorem RevAt.ends {i : Nat} (h : RevAt enc s ds w g o i) (hi : ¬ i < ds.length - 1 - i) (hn : i ≤ ds.length) : ∀ k d, ds.reverse[k]? = some d → w.rangeAt g (o + k * s) (enc d) := fun k d hd => by
  have hk : k < ds.length := by simpa using (List.getElem?_eq_some_iff.1 hd).1
  rw [List.getElem?_reverse hk] at hd
  refine h k d hk ?_
  by_cases hc : k < i ∨ ds.length - i ≤ k
  · rwa [if_pos hc]
  · rw [if_neg hc]
    rwa [show ds.length - 1 - k = k by omega] at hd
end
end Go.Proofs.Ytfhaebaegkpkhaa.RevL
