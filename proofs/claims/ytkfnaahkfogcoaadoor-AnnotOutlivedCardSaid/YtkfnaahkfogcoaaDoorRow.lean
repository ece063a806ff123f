/- Rows (slices) that a call makes, and rows that it reads. -/
import Derived.Test.YtkfnaahkfogcoaaDoorKMap
import Derived.Test.YtkfnaahkfogcoaaDoorShelf
import Derived.Sort.OwnSortedInts
import Derived.Deep.LoopGhost
import Derived.Deep.OwnRows
import Derived.Deep.AppendLies
import Derived.OwnWalkIn
import Derived.Maps.AppendAt
import Derived.Maps.OwnIn
namespace Go.Proofs.YtkfnaahkfogcoaaDoor
open Go.RowKit

theorem upd_of_grown {w w' : World} {row : Option Nat} (h : w.grownBy w' row) : Upd (fun k => some k = row) w w' :=
  ⟨h.os, h.tape, h.output, h.size, fun k hk hn => h.block k hk hn⟩
theorem own_upd {S : Nat → Prop} {w w' : World} {base sz n : Nat} {e : TypeId} {v : Value} {xs : List Value} (h : w.ownsRow base e sz v n xs) (hu : Upd S w w') (hs : ∀ k, v.ownBlock = some k → ¬ S k) : w'.ownsRow base e sz v n xs := by
  refine ⟨h.1, ?_⟩
  rcases h.2 with hn | ⟨g, cap, cur, rfl, hb, hgg, rest⟩
  · exact .inl hn
  · refine .inr ⟨g, cap, cur, rfl, hb, ?_, rest⟩
    rw [hu.block g (Array.getElem?_eq_some_iff.1 hgg).1 (hs g rfl)]
    exact hgg
theorem own_mono {w : World} {base base' sz n : Nat} {e : TypeId} {v : Value} {xs : List Value} (h : w.ownsRow base e sz v n xs) (hb : base' ≤ base) : w.ownsRow base' e sz v n xs := by
  refine ⟨h.1, ?_⟩
  rcases h.2 with hn | ⟨g, cap, cur, h1, h2, h3⟩
  · exact .inl hn
  · exact .inr ⟨g, cap, cur, h1, by omega, h3⟩
theorem own_new {w : World} {base sz n : Nat} {e : TypeId} {v : Value} {xs : List Value} (h : w.ownsRow base e sz v n xs) : ∀ k, v.ownBlock = some k → base ≤ k := fun k hk => (h.lt k hk).1

section
variable {P : Program} {ops : Array Oper} {rest : List Oper} {o : Oper} {a : Act} {Q : Exit → Act → World → Prop}
/-- append(s, x): x stands, boxed, in the last block. -/
theorem app1 {W : World} (base : Nat) (hgd : o.guard = none) (s x : Operand) (t e : TypeId) (z : Value) (size bytes : Nat)
    (ho : o.op = .call { callee := .builtin .append, args := #[s, x], argTypes := #[t, t] })
    (ht : P.underlying t = some (.slice e)) (hinfo : (P.info? e).map (fun i => (i.zero, i.size, i.bytes)) = some (some z, size, bytes)) (hz : z.cells.size = size) (hsz : 0 < size) (hb0 : 0 < bytes)
    (v : Value) (n : Nat) (xs : List Value) (cs : Array Value) (hs : a.eval s = v) (hx : a.eval x = .slice (some ⟨W.heap.size, 0, none⟩) 1 1) (hcs : cs.size = size) (h1 : ∀ u ∈ cs.toList, u.oneCell' = true)
    (HO : W.ownsRow base e size v n xs) (hbase : base ≤ W.heap.size) (hl : (n + 1) * bytes ≤ 140737488355328)
    (h : ∀ v1 w1, w1.ownsRow base e size v1 (n + 1) (xs ++ cs.toList) → Upd (fun k => some k = v.ownBlock) W w1 → (∀ k, some k = v1.ownBlock → some k = v.ownBlock ∨ W.heap.size ≤ k) → wpList P ops Q rest (a.put o.dst v1) w1) :
    wpList P ops Q (o :: rest) a (W.alloc (.cells cs e)) := by
  obtain ⟨i0, hi, hzz⟩ := Option.map_eq_some_iff.1 hinfo
  simp only [Prod.mk.injEq] at hzz
  obtain ⟨hz0, hz1, hz2⟩ := hzz
  have hlen : n + 1 ≤ 140737488355328 := Nat.le_trans (Nat.le_mul_of_pos_right _ hb0) hl
  refine wpList_append_own_at (W.alloc (.cells cs e)) hgd s x t ho base e i0 z size bytes ht hi hz0 hz1 hz2 hz hsz v n xs hs (HO.alloc _) ⟨W.heap.size, 0, none⟩ 1 1 cs.toList hx (by simp [hcs])
    (World.news_of_block (cs := cs) (t := e) (fr := (0, 0)) (heap_alloc_new W _)) h1 (by simp only [maxLen]; omega) hl (by simp; omega) ?_
  intro v1 w1 hown hg _ hat
  have h1 : Upd (fun k => some k = v.ownBlock) W (W.alloc (.cells cs e)) := (Upd.refl _ W).alloc _
  refine h v1 w1 hown (h1.step (upd_of_grown hg)) (fun k hk => ?_)
  rcases hat with hat | hat
  · exact .inl (hk.trans hat)
  · rw [hat] at hk; simp at hk; exact .inr (by omega)
/-- .. within a fence. -/
theorem app1_in {F : Fence} {N : Nat} {W : World} (base : Nat) (hgd : o.guard = none) (s x : Operand) (t e : TypeId) (z : Value) (size bytes : Nat)
    (ho : o.op = .call { callee := .builtin .append, args := #[s, x], argTypes := #[t, t] })
    (ht : P.underlying t = some (.slice e)) (hinfo : (P.info? e).map (fun i => (i.zero, i.size, i.bytes)) = some (some z, size, bytes)) (hz : z.cells.size = size) (hsz : 0 < size) (hb0 : 0 < bytes)
    (v : Value) (n : Nat) (xs : List Value) (cs : Array Value) (hs : a.eval s = v) (hx : a.eval x = .slice (some ⟨W.heap.size, 0, none⟩) 1 1) (hcs : cs.size = size) (h1 : ∀ u ∈ cs.toList, u.oneCell' = true)
    (HO : W.ownsRow base e size v n xs) (hbase : base ≤ W.heap.size) (hl : (n + 1) * bytes ≤ 140737488355328)
    (h : ∀ v1 w1, w1.ownsRow base e size v1 (n + 1) (xs ++ cs.toList) → Upd (fun k => some k = v.ownBlock) W w1 → (∀ k, some k = v1.ownBlock → some k = v.ownBlock ∨ W.heap.size ≤ k) → wpListIn F N P ops Q rest (a.put o.dst v1) w1) :
    wpListIn F N P ops Q (o :: rest) a (W.alloc (.cells cs e)) := by
  obtain ⟨i0, hi, hzz⟩ := Option.map_eq_some_iff.1 hinfo
  simp only [Prod.mk.injEq] at hzz
  obtain ⟨hz0, hz1, hz2⟩ := hzz
  have hlen : n + 1 ≤ 140737488355328 := Nat.le_trans (Nat.le_mul_of_pos_right _ hb0) hl
  refine wpListIn_append_own_at (W.alloc (.cells cs e)) hgd s x t ho base e i0 z size bytes ht hi hz0 hz1 hz2 hz hsz v n xs hs (HO.alloc _) ⟨W.heap.size, 0, none⟩ 1 1 cs.toList hx (by simp [hcs])
    (World.news_of_block (cs := cs) (t := e) (fr := (0, 0)) (heap_alloc_new W _)) h1 (by simp only [maxLen]; omega) hl (by simp; omega) ?_
  intro v1 w1 hown hg _ hat
  have h1 : Upd (fun k => some k = v.ownBlock) W (W.alloc (.cells cs e)) := (Upd.refl _ W).alloc _
  refine h v1 w1 hown (h1.step (upd_of_grown hg)) (fun k hk => ?_)
  rcases hat with hat | hat
  · exact .inl (hk.trans hat)
  · rw [hat] at hk; simp at hk; exact .inr (by omega)
end

/-- A row of ints of the call's own. -/
def OwnI (w : World) (base : Nat) (v : Value) (xs : List Int) : Prop := w.ownsRow base 3 1 v xs.length (xs.map (Value.int .i64))
theorem OwnI.upd {S : Nat → Prop} {w w' : World} {base : Nat} {v : Value} {xs : List Int} (h : OwnI w base v xs) (hu : Upd S w w') (hs : ∀ k, v.ownBlock = some k → ¬ S k) : OwnI w' base v xs := own_upd h hu hs
theorem info_int : (Tryd.prog.info? 3).map (fun i => (i.zero, i.size, i.bytes)) = some (some (.int .i64 0), 1, 8) := by kernel_rfl
/-- append(s, x) on a row of ints. -/
theorem app_int {ops : Array Oper} {rest : List Oper} {o : Oper} {a : Act} {Q : Exit → Act → World → Prop} {W : World} (base : Nat) (hgd : o.guard = none) (s x : Operand)
    (ho : o.op = .call { callee := .builtin .append, args := #[s, x], argTypes := #[28, 28] })
    (v : Value) (xs : List Int) (y : Int) (hs : a.eval s = v) (hx : a.eval x = .slice (some ⟨W.heap.size, 0, none⟩) 1 1)
    (HO : OwnI W base v xs) (hbase : base ≤ W.heap.size) (hl : xs.length ≤ 1000000000000)
    (h : ∀ v1 w1, OwnI w1 base v1 (xs ++ [y]) → Upd (fun k => some k = v.ownBlock) W w1 → (∀ k, some k = v1.ownBlock → some k = v.ownBlock ∨ W.heap.size ≤ k) → wpList Tryd.prog ops Q rest (a.put o.dst v1) w1) :
    wpList Tryd.prog ops Q (o :: rest) a (W.alloc (.cells #[.int .i64 y] 3)) :=
  app1 base hgd s x 28 3 (.int .i64 0) 1 8 ho Tryd.underlying28 info_int rfl (by decide) (by decide) v _ _ #[.int .i64 y] hs hx rfl (by intro u hu; simp at hu; subst hu; rfl) HO hbase (by omega)
    (fun v1 w1 ho1 hu1 => h v1 w1 (by unfold OwnI; simpa using ho1) hu1)
/-- .. within a fence. -/
theorem app_int_in {F : Fence} {N : Nat} {ops : Array Oper} {rest : List Oper} {o : Oper} {a : Act} {Q : Exit → Act → World → Prop} {W : World} (base : Nat) (hgd : o.guard = none) (s x : Operand)
    (ho : o.op = .call { callee := .builtin .append, args := #[s, x], argTypes := #[28, 28] })
    (v : Value) (xs : List Int) (y : Int) (hs : a.eval s = v) (hx : a.eval x = .slice (some ⟨W.heap.size, 0, none⟩) 1 1)
    (HO : OwnI W base v xs) (hbase : base ≤ W.heap.size) (hl : xs.length ≤ 1000000000000)
    (h : ∀ v1 w1, OwnI w1 base v1 (xs ++ [y]) → Upd (fun k => some k = v.ownBlock) W w1 → (∀ k, some k = v1.ownBlock → some k = v.ownBlock ∨ W.heap.size ≤ k) → wpListIn F N Tryd.prog ops Q rest (a.put o.dst v1) w1) :
    wpListIn F N Tryd.prog ops Q (o :: rest) a (W.alloc (.cells #[.int .i64 y] 3)) :=
  app1_in base hgd s x 28 3 (.int .i64 0) 1 8 ho Tryd.underlying28 info_int rfl (by decide) (by decide) v _ _ #[.int .i64 y] hs hx rfl (by intro u hu; simp at hu; subst hu; rfl) HO hbase (by omega)
    (fun v1 w1 ho1 hu1 => h v1 w1 (by unfold OwnI; simpa using ho1) hu1)
theorem OwnI.len {w : World} {base : Nat} {v : Value} {xs : List Int} (h : OwnI w base v xs) : xs.length ≤ 9223372036854775807 := by
  rcases h.2 with ⟨_, h⟩ | ⟨_, cap, _, _, _, _, h1, h2, _⟩
  · omega
  · unfold maxLen at h2; omega
/-- What is known of a row of ints that is read. -/
theorem OwnI.cases {w : World} {base : Nat} {v : Value} {xs : List Int} (h : OwnI w base v xs) :
    (xs = [] ∧ ∃ a c, v = .slice a 0 c) ∨ ∃ g c, v = .slice (some ⟨g, 0, none⟩) xs.length c ∧ base ≤ g ∧ g < w.heap.size ∧ ∀ i, i < xs.length → w.cell? ⟨g, i, none⟩ = some (.int .i64 (xs[i]?.getD 0)) := by
  rcases h.2 with ⟨h1, h2⟩ | ⟨g, cap, cur, h1, h2, h3, h4⟩
  · exact .inl ⟨List.eq_nil_of_length_eq_zero h2, none, 0, by rw [h1]⟩
  · refine .inr ⟨g, cap, h1, h2, (Array.getElem?_eq_some_iff.1 h3).1, fun i hi => ?_⟩
    have hc := World.ownsRow.cellAt (g := g) (n := xs.length) (cap := cap) (by rw [← h1]; exact h) i (by omega)
    rw [hc]
    simp [hi]
theorem OwnI.nil {w : World} {base : Nat} {v : Value} (h : OwnI w base v []) : ∃ a c, v = .slice a 0 c := by
  rcases h.cases with ⟨_, a, c, h⟩ | ⟨g, c, h, _⟩
  · exact ⟨a, c, h⟩
  · exact ⟨_, c, h⟩
theorem OwnI.cons {w : World} {base : Nat} {v : Value} {x : Int} {xs : List Int} (h : OwnI w base v (x :: xs)) :
    ∃ g c, v = .slice (some ⟨g, 0, none⟩) (xs.length + 1) c ∧ base ≤ g ∧ g < w.heap.size ∧ ∀ i, i < xs.length + 1 → w.cell? ⟨g, i, none⟩ = some (.int .i64 ((x :: xs)[i]?.getD 0)) := by
  rcases h.cases with ⟨h, _⟩ | ⟨g, c, h⟩
  · simp at h
  · exact ⟨g, c, h⟩
theorem OwnI.read {w : World} {base : Nat} {v : Value} {xs : List Int} (h : OwnI w base v xs) :
    ∃ a c, v = .slice a xs.length c ∧ Sec (0 < xs.length → ∃ g, a = some ⟨g, 0, none⟩ ∧ base ≤ g ∧ g < w.heap.size ∧ ∀ i, i < xs.length → w.cell? ⟨g, i, none⟩ = some (.int .i64 (xs[i]?.getD 0))) := by
  rcases h.cases with ⟨rfl, a, c, h⟩ | ⟨g, c, h, h2⟩
  · exact ⟨a, c, h, ⟨fun h => by simp at h⟩⟩
  · exact ⟨_, c, h, ⟨fun _ => ⟨g, rfl, h2⟩⟩⟩
theorem mergeSort_perm_eq {xs ys : List Int} (h : xs.Perm ys) : xs.mergeSort (fun x y => decide (x ≤ y)) = ys.mergeSort (fun x y => decide (x ≤ y)) := by
  have tr : ∀ a b c : Int, decide (a ≤ b) = true → decide (b ≤ c) = true → decide (a ≤ c) = true := fun a b c h1 h2 => by simp at *; omega
  have tot : ∀ a b : Int, (decide (a ≤ b) || decide (b ≤ a)) = true := fun a b => by simp; omega
  refine List.Perm.eq_of_pairwise (le := fun x y => decide (x ≤ y) = true) (fun a b _ _ h1 h2 => by simp at h1 h2; omega) (List.pairwise_mergeSort tr tot xs) (List.pairwise_mergeSort tr tot ys) ?_
  exact (List.mergeSort_perm xs _).trans (h.trans (List.mergeSort_perm ys _).symm)
def sortI (xs : List Int) : List Int := xs.mergeSort (fun x y => decide (x ≤ y))
/-- slices.Sort of a row of the call's own. -/
theorem sort_own (w : World) (base : Nat) (v : Value) (xs : List Int) (h : OwnI w base v xs) (hs : xs.length < 4611686018427387904) :
    Calls Tryd.prog 18 #[v] w fun e w' => e = .returned (.tuple #[]) ∧ OwnI w' base v (sortI xs) ∧ Upd (fun k => some k = v.ownBlock) w w' := by
  rcases h.2 with ⟨rfl, h2⟩ | ⟨g, cap, cur, rfl, h2, h3, h4, h5, h6, h7⟩
  · have hx : xs = [] := List.eq_nil_of_length_eq_zero h2
    subst hx
    refine (Tryd.slices_Sort_int_none _ _ _).mono ?_
    rintro e w' ⟨rfl, rfl⟩
    exact ⟨rfl, by simpa [sortI] using h, Upd.refl _ _⟩
  · have hH := holds_of_blockI (ss := xs) h3 (by simpa using h7)
    refine (Tryd.slices_Sort_int g 0 cap xs w hH (Array.getElem?_eq_some_iff.1 h3).1 hs).mono ?_
    rintro e w' ⟨rfl, n, os, rfl⟩
    have hl : (sortI xs).length = xs.length := by simp [sortI]
    refine ⟨rfl, ?_, upd_of_grown (grownBy_sortedI _)⟩
    unfold OwnI
    rw [hl]
    exact ownsRow_sortedI hl h2 h3 h4 h5 h6
end Go.Proofs.YtkfnaahkfogcoaaDoor
