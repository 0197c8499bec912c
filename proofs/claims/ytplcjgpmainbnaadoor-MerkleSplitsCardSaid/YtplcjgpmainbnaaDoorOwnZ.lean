/- append(x, make([]T, m)...), onto what is one's own. -/
import Derived.Test.YtplcjgpmainbnaaDoorOwn2
import Derived.IntWalk
set_option linter.unusedVariables false
set_option linter.unusedSimpArgs false
namespace Go.Proofs.YtplcjgpmainbnaaDoor.OwnS
open Go Go.RowKit
section
variable {P : Program} (w : World)
theorem zeros_length (z : Array Value) (m : Nat) : (Builtin.zeroCells z m).toList.length = m * z.size := by rw [Array.length_toList, size_zeroCells]
theorem zeros_one (z : Array Value) (m : Nat) (h1 : ∀ u ∈ z.toList, u.oneCell' = true) : ∀ u ∈ (Builtin.zeroCells z m).toList, u.oneCell' = true := by
  intro u hu
  unfold Builtin.zeroCells at hu
  simp only [Array.toList_map, List.mem_map, Array.toList_range, List.mem_range] at hu
  obtain ⟨i, hi, rfl⟩ := hu
  have hz : 0 < z.size := by
    rcases Nat.eq_zero_or_pos z.size with h | h
    · rw [h] at hi; omega
    · exact h
  have hlt := Nat.mod_lt i hz
  rw [getElem!_pos z _ hlt]
  exact h1 _ (by simp)
/-- The zeros of one cell. -/
theorem zeros_byte (z : Value) (m : Nat) : (Builtin.zeroCells #[z] m).toList = List.replicate m z := by
  unfold Builtin.zeroCells
  refine List.ext_getElem (by simp) fun i h1 h2 => ?_
  simp [Nat.mod_one]
theorem run_append_zeros (base : Nat) (t tx ty e : TypeId) (k : IntKind) (i : TypeInfo) (z : Value) (size bytes : Nat) (ht : P.underlying t = some (.slice e)) (htx : P.underlying tx = some (.int k)) (hi : P.info? e = some i) (hz : i.zero = some z)
    (hsize : i.size = size) (hby : i.bytes = bytes) (hzs : z.cells.size = size) (hz1 : ∀ u ∈ z.cells.toList, u.oneCell' = true)
    (v : Value) (n : Nat) (xs : List Value) (hown : Owns w base size v n xs) (m : Nat)
    (h63 : n + m ≤ maxLen) (hbytes : (n + m) * bytes ≤ 140737488355328) (hbase : base ≤ w.heap.size) :
    ∃ v' w', (Builtin.append_ #[t, tx] ty #[v, .int k (m : Int)]).run P w = .ok v' w' ∧ Owns w' base size v' (n + m) (xs ++ (Builtin.zeroCells z.cells m).toList) ∧ w.grownBy w' v.ownBlock ∧ (v'.ownBlock = v.ownBlock ∨ v'.ownBlock = some w.heap.size) := by
  subst hsize
  subst hby
  have hsmall : n + m ≤ 9223372036854775807 := by simp only [maxLen] at h63; omega
  have hwrap : IntKind.i64.wrap (m : Int) = (m : Int) := IntWalk.i64_in _ (by omega)
  have hnl := zeros_length z.cells m
  rw [hzs] at hnl
  have hone := zeros_one z.cells m hz1
  have hmb : ¬ (281474976710656 < (m : Int) * (i.bytes : Int)) := by
    have : m * i.bytes ≤ (n + m) * i.bytes := Nat.mul_le_mul_right _ (by omega)
    have h2 : ((m * i.bytes : Nat) : Int) = (m : Int) * (i.bytes : Int) := by simp
    omega
  have hm0 : ¬ ((m : Int) < 0) := by omega
  have hai : ∀ (x : Int) (w' : World), (asIntOf (Value.int k x)).run P w' = .ok (k, x) w' := fun _ _ => rfl
  have hz0 : m * i.size = 0 → Builtin.zeroCells z.cells m = #[] := fun h0 => Array.eq_empty_of_size_eq_zero (by rw [size_zeroCells, hzs]; exact h0)
  have happ : ∀ w' : World, (if m * i.size = 0 then (pure #[] : Sem (Array Value)) else do pure (Builtin.zeroCells (← zeroValue e).cells m)).run P w' = .ok (Builtin.zeroCells z.cells m) w' := by
    intro w'
    split
    · rename_i h0
      have : Builtin.zeroCells z.cells m = #[] := Array.eq_empty_of_size_eq_zero (by rw [size_zeroCells, hzs]; exact h0)
      rw [this]
      rfl
    · simp [zeroValue, typeInfo, hi, hz]
  have hlen : (xs ++ (Builtin.zeroCells z.cells m).toList).length = (n + m) * i.size := by rw [List.length_append, hown.1, hnl, Nat.add_mul]
  have grown : ∀ (A : Option Addr) (cap : Nat), v = .slice A n cap → cap < n + m → (Builtin.firstCells i.size n v).run P w.drew = .ok xs.toArray w.drew →
      ∃ v' w', (Builtin.append_ #[t, tx] ty #[v, .int k (m : Int)]).run P w = .ok v' w' ∧ Owns w' base i.size v' (n + m) (xs ++ (Builtin.zeroCells z.cells m).toList) ∧ w.grownBy w' v.ownBlock ∧ (v'.ownBlock = v.ownBlock ∨ v'.ownBlock = some w.heap.size) := by
    intro A cap hv hlt hold
    subst hv
    have hn : ¬ (n + m ≤ cap) := by omega
    have h63' : ¬ (9223372036854775807 < ((n : Int) + (m : Int))) := by omega
    have h48' : ¬ (281474976710656 < Builtin.nextslicecap (n + m) cap * i.bytes) := by have := growslice_fits hlt hbytes; omega
    have hge := grownCap_ge w (n + m) cap e
    have hcm : grownCap w (n + m) cap e ≤ maxLen := grownCap_le_maxLen w (n + m) cap e h63
    have hr : (Builtin.append_ #[t, tx] ty #[.slice A n cap, .int k (m : Int)]).run P w = .ok (.slice (some ⟨w.heap.size, 0, none⟩) (n + m) (grownCap w (n + m) cap e)) (w.drew.alloc (.cells ((xs ++ (Builtin.zeroCells z.cells m).toList).toArray ++ Builtin.zeroCells z.cells (grownCap w (n + m) cap e - (n + m))) e)) := by
      have ha := happ w.drew
      simp [Builtin.append_, run_underlying ht, run_underlying htx, sizeOf, typeInfo, zeroValue, hi, hz, asInt, hai, hwrap, hm0, hmb, hn, h63', h48', Question.forced, hold, newRow, grownCap]
      by_cases h0 : m * i.size = 0
      · rw [if_pos h0, hz0 h0]; simp
      · rw [if_neg h0]
        congr 2
        refine congrArg (fun c => Obj.cells c e (0, 0)) ?_
        apply Array.ext'
        simp
    refine ⟨_, _, hr, ⟨hlen, .inr ⟨w.heap.size, 0, _, rfl, hbase, by simp, hge, hcm, ?_, ?_⟩⟩, ⟨rfl, rfl, rfl, by simp, fun k hk _ => Below.heap_alloc w.drew _ k hk⟩, .inr rfl⟩
    · intro j u hj
      have hb := heap_alloc_new w.drew (.cells ((xs ++ (Builtin.zeroCells z.cells m).toList).toArray ++ Builtin.zeroCells z.cells (grownCap w (n + m) cap e - (n + m))) e)
      rw [cell_of_row _ w.heap.size _ _ e (0, 0) hb, Nat.zero_add, Array.getElem?_append_left (by simpa using (List.getElem?_eq_some_iff.1 hj).1)]
      simpa using hj
    · intro j hj
      have hb := heap_alloc_new w.drew (.cells ((xs ++ (Builtin.zeroCells z.cells m).toList).toArray ++ Builtin.zeroCells z.cells (grownCap w (n + m) cap e - (n + m))) e)
      refine ⟨?_, ?_⟩
      · rw [cell_of_row _ w.heap.size _ _ e (0, 0) hb, Nat.zero_add]
        have hsz : ((xs ++ (Builtin.zeroCells z.cells m).toList).toArray ++ Builtin.zeroCells z.cells (grownCap w (n + m) cap e - (n + m))).size = grownCap w (n + m) cap e * i.size := by
          rw [Array.size_append, List.size_toArray, hlen, size_zeroCells, hzs, ← Nat.add_mul]
          congr 1
          omega
        rw [Array.getElem?_eq_getElem (by rw [hsz]; exact hj)]
        rfl
      · exact frozen_of_row _ w.heap.size _ _ _ hb
  rcases hown.2 with ⟨rfl, rfl⟩ | ⟨g, o, cap, rfl, hbg, hgs, hnc, hcm, hrange, hthere⟩
  · have hx : xs = [] := List.eq_nil_of_length_eq_zero (by simpa using hown.1)
    subst hx
    by_cases hm : m = 0
    · subst hm
      have hn : (Builtin.zeroCells z.cells 0).toList = [] := List.eq_nil_of_length_eq_zero (by simpa using hnl)
      rw [hn]
      refine ⟨.slice none 0 0, w, ?_, Owns.nil w base i.size, grownBy_refl w _, .inl rfl⟩
      have ha := happ w
      have hw0 : IntKind.i64.wrap 0 = 0 := by decide
      simp [Builtin.append_, run_underlying ht, run_underlying htx, sizeOf, typeInfo, hi, asInt, hai, hw0]
    · exact grown none 0 rfl (by omega) (run_firstCells_none w.drew i.size 0 0 0)
  · by_cases hroom : n + m ≤ cap
    · have hin : ∀ j, j < (Builtin.zeroCells z.cells m).toList.length → n * i.size + j < cap * i.size := fun j hj => by
        have h1 : (n + m) * i.size ≤ cap * i.size := Nat.mul_le_mul_right _ hroom
        rw [Nat.add_mul, ← hnl] at h1
        omega
      have hst := run_storeCells_cells (P := P) g (o + n * i.size) (Builtin.zeroCells z.cells m).toList 0 w (fun j hj => by have := (hthere _ (hin j hj)).1; rwa [← Nat.add_assoc] at this) (fun j hj => by have := (hthere _ (hin j hj)).2; rwa [← Nat.add_assoc] at this) hone
      simp only [Nat.add_zero] at hst
      have hr : (Builtin.append_ #[t, tx] ty #[.slice (some ⟨g, o, none⟩) n cap, .int k (m : Int)]).run P w = .ok (.slice (some ⟨g, o, none⟩) (n + m) cap) (w.setCells g (o + n * i.size) (Builtin.zeroCells z.cells m).toList) := by
        simp [Builtin.append_, run_underlying ht, run_underlying htx, sizeOf, typeInfo, hi, asInt, hai, hwrap, hm0, hmb, hroom, Addr.add_lit, hst]
        by_cases h0 : m * i.size = 0
        · rw [if_pos h0, hz0 h0]; rfl
        · rw [if_neg h0]; simp [zeroValue, typeInfo, hi, hz, hst]
      have hso : w.heap.size ≤ (w.setCells g (o + n * i.size) (Builtin.zeroCells z.cells m).toList).heap.size := Nat.le_of_eq (setCells_same g _ _ w).2.2.2.symm
      refine ⟨_, _, hr, ⟨hlen, .inr ⟨g, o, cap, rfl, hbg, by omega, hroom, hcm, ?_, World.there_setCells hthere _ _ _⟩⟩, ⟨(setCells_same g _ _ w).1, (setCells_same g _ _ w).2.1, (setCells_same g _ _ w).2.2.1, hso, fun k hk hne => World.heap_setCells_other w g _ _ hk (fun e => hne (by rw [e]; rfl))⟩, .inl rfl⟩
      intro j u hj
      rw [List.getElem?_append] at hj
      split at hj
      · rename_i hlt
        rw [World.cell?_setCells_out g _ _ w _ (fun _ _ => .inl (by show o + j < o + n * i.size; have := hown.1; omega))]
        exact hrange j u hj
      · rename_i hge
        have hx1 := hown.1
        obtain ⟨hj1, hj2⟩ := List.getElem?_eq_some_iff.1 hj
        have := World.cell?_setCells_in g (Builtin.zeroCells z.cells m).toList (o + n * i.size) w (fun q hq => by have := (hthere _ (hin q hq)).1; rwa [← Nat.add_assoc] at this) _ hj1
        rw [hj2] at this
        rw [← this]
        congr 2
        omega
    · exact grown _ cap rfl (by omega) (run_firstCells_some (P := P) w.drew i.size n ⟨g, o, none⟩ n cap xs hown.1 (fun j u hj => by rw [add_lit]; simpa using hrange j u hj))
theorem wp_append_zeros {w : World} {o : Oper} {a : Act} {K : Act → World → Prop} {Q : Exit → Act → World → Prop} (s x : Operand) (t tx : TypeId)
    (ho : o.op = .call { callee := .builtin .append, args := #[s, x], argTypes := #[t, tx] })
    (base : Nat) (e : TypeId) (k : IntKind) (z : Value) (size bytes : Nat) (ht : P.underlying t = some (.slice e)) (htx : P.underlying tx = some (.int k)) (hi : ElemInfo P e z size bytes)
    (v : Value) (n : Nat) (xs : List Value) (hs : a.eval s = v) (hown : Owns w base size v n xs) (m : Nat) (hx : a.eval x = .int k (m : Int))
    (h63 : n + m ≤ maxLen) (hbytes : (n + m) * bytes ≤ 140737488355328) (hbase : base ≤ w.heap.size)
    (h : ∀ A c w', Owns w' base size (.slice A (n + m) c) (n + m) (xs ++ (Builtin.zeroCells z.cells m).toList) → w.grownBy w' v.ownBlock → ((Value.slice A (n + m) c).ownBlock = v.ownBlock ∨ (Value.slice A (n + m) c).ownBlock = some w.heap.size) → K (a.put o.dst (.slice A (n + m) c)) w') : o.wp P a w K Q := by
  obtain ⟨i, hi0, hz, hsize, hby, hzs, h1⟩ := hi
  obtain ⟨v', w', hr, h2, h3, h4⟩ := run_append_zeros (P := P) w base t tx o.type e k i z size bytes ht htx hi0 hz hsize hby hzs (fun u hu => List.all_eq_true.1 h1 u hu) v n xs hown m h63 hbytes hbase
  obtain ⟨A, c, rfl, -, -⟩ := h2.form
  unfold Oper.wp execOp
  simp only [ho, resolve, invoke, builtin, Sem.run_bind, Sem.run_pure, Result.andThen_ok, List.map_toArray, List.map_cons, List.map_nil, hs, hx, hr]
  exact h A c w' h2 h3 h4
theorem wpList_append_zeros {w : World} {ops : Array Oper} {rest : List Oper} {o : Oper} {a : Act} {Q : Exit → Act → World → Prop} (hgd : o.guard = none) (s x : Operand) (t tx : TypeId)
    (ho : o.op = .call { callee := .builtin .append, args := #[s, x], argTypes := #[t, tx] })
    (base : Nat) (e : TypeId) (k : IntKind) (z : Value) (size bytes : Nat) (ht : P.underlying t = some (.slice e)) (htx : P.underlying tx = some (.int k)) (hi : ElemInfo P e z size bytes)
    (v : Value) (n : Nat) (xs : List Value) (hs : a.eval s = v) (hown : Owns w base size v n xs) (m : Nat) (hx : a.eval x = .int k (m : Int))
    (h63 : n + m ≤ maxLen) (hbytes : (n + m) * bytes ≤ 140737488355328) (hbase : base ≤ w.heap.size)
    (h : ∀ A c w', Owns w' base size (.slice A (n + m) c) (n + m) (xs ++ (Builtin.zeroCells z.cells m).toList) → w.grownBy w' v.ownBlock → ((Value.slice A (n + m) c).ownBlock = v.ownBlock ∨ (Value.slice A (n + m) c).ownBlock = some w.heap.size) → wpList P ops Q rest (a.put o.dst (.slice A (n + m) c)) w') : wpList P ops Q (o :: rest) a w :=
  wpList_plain hgd fun _ hK => wp_append_zeros s x t tx ho base e k z size bytes ht htx hi v n xs hs hown m hx h63 hbytes hbase fun A c w' h2 h3 h4 => hK _ _ (h A c w' h2 h3 h4)
end
end Go.Proofs.YtplcjgpmainbnaaDoor.OwnS
