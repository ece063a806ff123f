/- Words that every proof of this seat uses: what a call may have changed ('Upd'), and maps whose keys are ints ('MapI'). No program is named here. -/
import Derived.Below
import Derived.WalkKit
import Derived.OwnWalk
import Derived.Maps.RangeRun
import Derived.Deep.Draws
namespace Go.Proofs.YtkfnaahkfogcoaaDoor
open Go.RowKit
open Go.ChangeMaps (setBlock)

/-- From w to w' only blocks of S, and new ones, have changed. -/
structure Upd (S : Nat → Prop) (w w' : World) : Prop where
  os : w'.os = w.os
  tape : w'.tape = w.tape
  output : w'.output = w.output
  size : w.heap.size ≤ w'.heap.size
  block : ∀ k, k < w.heap.size → ¬ S k → w'.heap[k]? = w.heap[k]?

/-- A fact that the walk does not look into. -/
structure Sec (p : Prop) : Prop where mk :: (out : p)
/-- No block. -/
def No : Nat → Prop := fun _ => False

theorem Upd.refl (S : Nat → Prop) (w : World) : Upd S w w := ⟨rfl, rfl, rfl, Nat.le_refl _, fun _ _ _ => rfl⟩
theorem Upd.mono {S T : Nat → Prop} {w w' : World} (h : Upd S w w') (hs : ∀ k, k < w.heap.size → S k → T k) : Upd T w w' :=
  ⟨h.os, h.tape, h.output, h.size, fun k hk ht => h.block k hk (fun e => ht (hs k hk e))⟩
theorem Upd.trans {S T : Nat → Prop} {a b c : World} (h : Upd S a b) (k : Upd T b c) (hs : ∀ i, i < a.heap.size → T i → S i) : Upd S a c :=
  ⟨k.os.trans h.os, k.tape.trans h.tape, k.output.trans h.output, Nat.le_trans h.size k.size,
    fun i hi hn => (k.block i (Nat.lt_of_lt_of_le hi h.size) (fun e => hn (hs i hi e))).trans (h.block i hi hn)⟩
theorem Upd.step {S : Nat → Prop} {a b c : World} (h : Upd S a b) (k : Upd S b c) : Upd S a c := h.trans k (fun _ _ e => e)
theorem Upd.below {B : Nat} {S : Nat → Prop} {w w' : World} (h : Upd S w w') (hB : B ≤ w.heap.size) (hs : ∀ k, S k → B ≤ k) : Below B w w' :=
  ⟨h.os, h.tape, h.output, h.size, fun k hk => h.block k (by omega) (fun e => by have := hs k e; omega)⟩
theorem Upd.of_below {w w' : World} (h : Below w.heap.size w w') (S : Nat → Prop) : Upd S w w' := ⟨h.os, h.tape, h.output, h.size, fun k hk _ => h.block k hk⟩
theorem Upd.drew {S : Nat → Prop} {a w : World} (h : Upd S a w) : Upd S a w.drew := ⟨h.os, h.tape, h.output, h.size, h.block⟩
theorem Upd.drewN {S : Nat → Prop} {a w : World} (h : Upd S a w) (n : Nat) : Upd S a (w.drewN n) := ⟨h.os, h.tape, h.output, h.size, h.block⟩
theorem Upd.alloc {S : Nat → Prop} {a w : World} (h : Upd S a w) (o : Obj) : Upd S a (w.alloc o) :=
  ⟨h.os, h.tape, h.output, by have := h.size; simp; omega, fun k hk hn => (Below.heap_alloc w o k (Nat.lt_of_lt_of_le hk h.size)).trans (h.block k hk hn)⟩
theorem Upd.setCell {S : Nat → Prop} {a w : World} (h : Upd S a w) {p : Addr} (hp : S p.block ∨ a.heap.size ≤ p.block) (u : Value) : Upd S a (w.setCell p u) :=
  ⟨h.os, h.tape, h.output, by have := h.size; rw [World.size_setCell]; exact this, fun k hk hn => (Below.heap_setCell w p u k (fun e => by rcases hp with hp | hp; exact hn (e ▸ hp); omega)).trans (h.block k hk hn)⟩
theorem Upd.grown {S : Nat → Prop} {a w w' : World} {row : Option Nat} (h : Upd S a w) (hg : w.grownBy w' row) (hr : ∀ k, row = some k → S k ∨ a.heap.size ≤ k) : Upd S a w' :=
  ⟨hg.os.trans h.os, hg.tape.trans h.tape, hg.output.trans h.output, Nat.le_trans h.size hg.size, fun k hk hn =>
    (hg.block k (Nat.lt_of_lt_of_le hk h.size) (fun e => by rcases hr k e.symm with hp | hp; exact hn hp; omega)).trans (h.block k hk hn)⟩
theorem Upd.setBlock {S : Nat → Prop} {a w : World} (h : Upd S a w) {b : Nat} (hb : S b ∨ a.heap.size ≤ b) (o : Obj) : Upd S a (setBlock w b o) :=
  ⟨h.os, h.tape, h.output, by have := h.size; simp [ChangeMaps.setBlock]; exact this, fun k hk hn => by
    have hne : b ≠ k := fun e => by rcases hb with hp | hp; exact hn (e ▸ hp); omega
    simp only [ChangeMaps.setBlock, Array.getElem?_setIfInBounds_ne hne]; exact h.block k hk hn⟩
theorem Upd.cell {S : Nat → Prop} {w w' : World} (h : Upd S w w') {p : Addr} (hp : p.block < w.heap.size) (hs : ¬ S p.block) : w'.cell? p = w.cell? p :=
  World.cell?_of_block (w := w) (h.block p.block hp hs)
theorem Upd.frozen {S : Nat → Prop} {w w' : World} (h : Upd S w w') {p : Addr} (hp : p.block < w.heap.size) (hs : ¬ S p.block) : w'.frozen? p = w.frozen? p :=
  World.frozen?_of_block (w := w) (h.block p.block hp hs)
/-- The two facts that the walk uses as rules behind a call that has changed no old block. -/
theorem Upd.rules {w w' : World} (h : Upd No w w') : (∀ b o, b < w.heap.size → w'.cell? ⟨b, o, none⟩ = w.cell? ⟨b, o, none⟩) ∧ (∀ b o, b < w.heap.size → w'.frozen? ⟨b, o, none⟩ = w.frozen? ⟨b, o, none⟩) :=
  ⟨fun b o hb => h.cell (p := ⟨b, o, none⟩) hb (fun e => e), fun b o hb => h.frozen (p := ⟨b, o, none⟩) hb (fun e => e)⟩

/-! ### maps whose keys are ints -/
/-- Block b of w is a map with these entries, in the order in which they came in. -/
def MapI (w : World) (b : Nat) (L : List (Int × Value)) : Prop :=
  ∃ es clock, w.heap[b]? = some (.map es clock) ∧ es.toList.map (fun e => (e.key, e.val)) = L.map (fun p => (Value.int .i64 p.1, p.2)) ∧
    (L.map (·.1)).Nodup ∧ (es.toList.map (·.born)).Nodup ∧ ∀ e ∈ es.toList, e.born < clock

def getI : List (Int × Value) → Int → Option Value
  | [], _ => none
  | (k, v) :: l, x => if x = k then some v else getI l x
def putI : List (Int × Value) → Int → Value → List (Int × Value)
  | [], x, y => [(x, y)]
  | (k, v) :: l, x, y => if x = k then (x, y) :: l else (k, v) :: putI l x y
def delI (L : List (Int × Value)) (x : Int) : List (Int × Value) := L.filter (fun p => p.1 ≠ x)

theorem MapI.lt {w : World} {b : Nat} {L : List (Int × Value)} (h : MapI w b L) : b < w.heap.size := by
  obtain ⟨es, clock, hb, _⟩ := h
  exact (Array.getElem?_eq_some_iff.1 hb).1
theorem MapI.same {w w' : World} {b : Nat} {L : List (Int × Value)} (h : MapI w b L) (hs : w'.heap[b]? = w.heap[b]?) : MapI w' b L := by
  obtain ⟨es, clock, hb, r⟩ := h
  exact ⟨es, clock, hs.trans hb, r⟩
theorem MapI.upd {S : Nat → Prop} {w w' : World} {b : Nat} {L : List (Int × Value)} (h : MapI w b L) (hu : Upd S w w') (hs : ¬ S b) : MapI w' b L := h.same (hu.block b h.lt hs)
theorem MapI.made (w : World) : MapI (w.alloc (.map #[] 0)) w.heap.size [] :=
  ⟨#[], 0, (MapKept.heap_alloc w _).1, rfl, List.nodup_nil, List.nodup_nil, by simp⟩

variable {P : Program}

theorem findNow_int (q : IntKind) (x : Int) : ∀ (l : List MapEntry) (L : List (Int × Value)) (i : Nat), l.map (fun e => (e.key, e.val)) = L.map (fun p => (Value.int .i64 p.1, p.2)) →
    Instr.findNow (.int q) (.int .i64 x) l i = some ((getI L x).map fun v => (i + L.findIdx (fun p => p.1 = x), v)) := by
  intro l
  induction l with
  | nil => intro L i h; cases L with
    | nil => rfl
    | cons p L => simp at h
  | cons e l ih =>
    intro L i h
    cases L with
    | nil => simp at h
    | cons p L =>
      obtain ⟨k, v⟩ := p
      simp only [List.map_cons, List.cons.injEq, Prod.mk.injEq] at h
      obtain ⟨⟨hk, hv⟩, ht⟩ := h
      unfold Instr.findNow
      rw [hk]
      simp only [Instr.sameNow, if_true]
      by_cases hx : x = k
      · subst hx
        simp [getI, List.findIdx_cons, hv]
      · have : (x == k) = false := by simp [hx]
        rw [this]
        simp only [ih L (i + 1) ht, getI, if_neg hx]
        have hd : (decide (k = x)) = false := by simp; exact fun e => hx e.symm
        rw [List.findIdx_cons]
        simp only [hd, cond_false]
        cases getI L x with
        | none => rfl
        | some u => simp; omega
theorem getI_none {L : List (Int × Value)} {x : Int} : getI L x = none ↔ x ∉ L.map (·.1) := by
  induction L with
  | nil => simp [getI]
  | cons p L ih =>
    obtain ⟨k, v⟩ := p
    unfold getI
    split
    · rename_i h; simp [h]
    · rename_i h; simp [ih]; intro _; exact h
theorem getI_some {L : List (Int × Value)} {x : Int} {v : Value} (h : getI L x = some v) : (x, v) ∈ L := by
  induction L with
  | nil => simp [getI] at h
  | cons p L ih =>
    obtain ⟨k, u⟩ := p
    unfold getI at h
    split at h
    · rename_i hk; simp at h; simp [hk, h]
    · exact List.mem_cons_of_mem _ (ih h)
theorem getI_mem {L : List (Int × Value)} (hn : (L.map (·.1)).Nodup) {x : Int} {v : Value} (h : (x, v) ∈ L) : getI L x = some v := by
  induction L with
  | nil => simp at h
  | cons p L ih =>
    obtain ⟨k, u⟩ := p
    simp only [List.map_cons, List.nodup_cons] at hn
    simp only [List.mem_cons, Prod.mk.injEq] at h
    unfold getI
    rcases h with ⟨rfl, rfl⟩ | h
    · simp
    · have : x ≠ k := fun e => hn.1 (e ▸ List.mem_map.2 ⟨_, h, rfl⟩)
      rw [if_neg this]
      exact ih hn.2 h
theorem run_getObj_at {w : World} {b : Nat} {es : Array MapEntry} {clock : Nat} (hb : w.heap[b]? = some (.map es clock)) : (getObj b).run P w = .ok (.map es clock) w := by
  simp [getObj, Sem.run, hb]
theorem run_checkKey_int {k : TypeId} {q : IntKind} (hk : P.underlying k = some (.int q)) (e : Bool) (x : Int) (w : World) : (Instr.checkKey e 10000 k (.int .i64 x)).run P w = .ok () w := by
  show (Instr.checkKey e (9999 + 1) k (.int .i64 x)).run P w = .ok () w
  rw [Instr.checkKey, Sem.run_bind, run_underlying hk]
  rfl
theorem run_findKey_int {k : TypeId} {q : IntKind} (hk : P.underlying k = some (.int q)) (x : Int) (w : World) {l : List MapEntry} {L : List (Int × Value)} (h : l.map (fun e => (e.key, e.val)) = L.map (fun p => (Value.int .i64 p.1, p.2))) :
    (Instr.findKey k (.int .i64 x) l).run P w = .ok ((getI L x).map fun v => (L.findIdx (fun p => p.1 = x), v)) w := by
  have := findNow_int q x l L 0 h
  simp only [Nat.zero_add] at this
  simp [Instr.findKey, run_underlying hk, this]

theorem MapI.lookup_ok {w : World} {b : Nat} {L : List (Int × Value)} (h : MapI w b L) {t k e : TypeId} {q : IntKind} (ht : P.underlying t = some (.map k e)) (hk : P.underlying k = some (.int q)) {z : Value} (hz : (zeroValue e).run P w = .ok z w) (x : Int) :
    (Instr.lookup t (.map (some b)) (.int .i64 x) true).run P w = .ok (.tuple #[(getI L x).getD z, .bool (getI L x).isSome]) w := by
  obtain ⟨es, clock, hb, hl, _⟩ := h
  cases hg : getI L x <;> simp [Instr.lookup, run_underlying ht, run_getObj_at hb, run_checkKey_int hk, run_findKey_int hk x w hl, hg, hz, Result.andThen]
theorem MapI.lookup {w : World} {b : Nat} {L : List (Int × Value)} (h : MapI w b L) {t k e : TypeId} {q : IntKind} (ht : P.underlying t = some (.map k e)) (hk : P.underlying k = some (.int q)) {z : Value} (hz : (zeroValue e).run P w = .ok z w) (x : Int) :
    (Instr.lookup t (.map (some b)) (.int .i64 x) false).run P w = .ok ((getI L x).getD z) w := by
  obtain ⟨es, clock, hb, hl, _⟩ := h
  cases hg : getI L x <;> simp [Instr.lookup, run_underlying ht, run_getObj_at hb, run_checkKey_int hk, run_findKey_int hk x w hl, hg, hz, Result.andThen]

theorem run_keyThatStays_int (q : IntKind) (x : Int) (w : World) : (Instr.keyThatStays (.int q x) (.int q x)).run P w = .ok (.int q x) w := by
  simp [Instr.keyThatStays, Instr.sameBits]
theorem run_setObj_map {w : World} {b : Nat} {es : Array MapEntry} {clock : Nat} (hb : w.heap[b]? = some (.map es clock)) (o : Obj) : (setObj b o).run P w = .ok () (setBlock w b o) := by
  simp [setObj, Sem.run, hb, setBlock]
theorem map_modify' {α β : Type} (f : α → β) (g : α → α) (g' : β → β) (h : ∀ a, f (g a) = g' (f a)) : ∀ (l : List α) (i : Nat), (l.modify i g).map f = (l.map f).modify i g'
  | [], i => by cases i <;> simp
  | a :: l, 0 => by simp [h]
  | a :: l, i + 1 => by simp [map_modify' f g g' h l i]
theorem map_eraseIdx' {α β : Type} (f : α → β) : ∀ (l : List α) (i : Nat), (l.eraseIdx i).map f = (l.map f).eraseIdx i
  | [], _ => rfl
  | _ :: _, 0 => rfl
  | a :: l, i + 1 => by simp [map_eraseIdx' f l i]
theorem putI_keys_new {L : List (Int × Value)} {x : Int} (y : Value) (h : getI L x = none) : putI L x y = L ++ [(x, y)] := by
  induction L with
  | nil => rfl
  | cons p L ih =>
    obtain ⟨k, v⟩ := p
    unfold getI at h
    split at h
    · cases h
    · rename_i hx
      simp [putI, hx, ih h]
theorem putI_keys_old {L : List (Int × Value)} {x : Int} (y : Value) {v : Value} (h : getI L x = some v) : (putI L x y).map (·.1) = L.map (·.1) ∧
    putI L x y = L.modify (L.findIdx fun p => p.1 = x) (fun _ => (x, y)) ∧ (L.findIdx fun p => p.1 = x) < L.length ∧ (L[L.findIdx fun p => p.1 = x]?).map (·.1) = some x := by
  induction L with
  | nil => simp [getI] at h
  | cons p L ih =>
    obtain ⟨k, u⟩ := p
    unfold getI at h
    by_cases hx : x = k
    · subst hx
      simp [putI, List.findIdx_cons]
    · rw [if_neg hx] at h
      obtain ⟨i1, i2, i3, i4⟩ := ih h
      have hd : decide (k = x) = false := by simp; exact fun e => hx e.symm
      simp only [putI, if_neg hx, List.map_cons, List.findIdx_cons, hd, cond_false, List.length_cons, List.modify_succ_cons, List.getElem?_cons_succ]
      exact ⟨by rw [i1], by rw [← i2], by omega, i4⟩
/-- 'm[x] = y' -/
theorem MapI.update {w : World} {b : Nat} {L : List (Int × Value)} (h : MapI w b L) {t k e : TypeId} {q : IntKind} (ht : P.underlying t = some (.map k e)) (hk : P.underlying k = some (.int q)) (x : Int) (y : Value) :
    ∃ w', (Instr.mapUpdate t (.map (some b)) (.int .i64 x) y).run P w = .ok () w' ∧ MapI w' b (putI L x y) ∧ Upd (· = b) w w' ∧ w'.heap.size = w.heap.size := by
  have hlt := h.lt
  obtain ⟨es, clock, hb, hl, hn, hbn, hbc⟩ := h
  have hsame : ∀ o, (setBlock w b o).heap[b]? = some o := fun o => by simp [setBlock, Array.getElem?_setIfInBounds_self_of_lt hlt]
  cases hg : getI L x with
  | none =>
    have hput := putI_keys_new y hg
    refine ⟨setBlock w b (.map (es.push { key := .int .i64 x, val := y, born := clock }) (clock + 1)), ?_, ?_, (Upd.refl (· = b) w).setBlock (.inl rfl) _, by simp [setBlock]⟩
    · simp [Instr.mapUpdate, run_underlying ht, run_getObj_at hb, run_checkKey_int hk, run_findKey_int hk x w hl, hg, Result.andThen, run_setObj_map hb]
    · refine ⟨_, _, hsame _, ?_, ?_, ?_, ?_⟩
      · rw [hput]; simp [hl]
      · rw [hput, List.map_append, List.nodup_append]
        refine ⟨hn, by simp, ?_⟩
        intro a ha c hc
        simp at hc
        subst hc
        rintro rfl
        exact getI_none.1 hg ha
      · simp only [Array.toList_push, List.map_append, List.map_cons, List.map_nil, List.nodup_append]
        refine ⟨hbn, by simp, ?_⟩
        intro a ha c hc
        simp at hc
        subst hc
        rintro rfl
        obtain ⟨e1, he1, he2⟩ := List.mem_map.1 ha
        have := hbc e1 he1
        omega
      · intro e1 he1
        simp only [Array.toList_push, List.mem_append, List.mem_singleton] at he1
        rcases he1 with he1 | rfl
        · have := hbc e1 he1; omega
        · simp
  | some v =>
    obtain ⟨i1, i2, i3, i4⟩ := putI_keys_old y hg
    have hlen : es.toList.length = L.length := by have := congrArg List.length hl; simpa using this
    have hi : (L.findIdx fun p => p.1 = x) < es.size := by rw [← Array.length_toList, hlen]; exact i3
    have hkey : (es[L.findIdx fun p => p.1 = x]'hi).key = .int .i64 x := by
      have h1 : (es.toList.map fun e => (e.key, e.val))[L.findIdx fun p => p.1 = x]? = (L.map fun p => (Value.int .i64 p.1, p.2))[L.findIdx fun p => p.1 = x]? := by rw [hl]
      rw [List.getElem?_map, List.getElem?_map] at h1
      rw [List.getElem?_eq_getElem i3] at h1 i4
      simp only [Option.map_some, Option.some.injEq] at h1 i4
      rw [Array.getElem?_toList, Array.getElem?_eq_getElem hi] at h1
      simp only [Option.map_some, Option.some.injEq, Prod.mk.injEq] at h1
      rw [h1.1, i4]
    refine ⟨setBlock w b (.map (es.modify (L.findIdx fun p => p.1 = x) fun e => { e with key := .int .i64 x, val := y }) clock), ?_, ?_, (Upd.refl (· = b) w).setBlock (.inl rfl) _, by simp [setBlock]⟩
    · simp [Instr.mapUpdate, run_underlying ht, run_getObj_at hb, run_checkKey_int hk, run_findKey_int hk x w hl, hg, Result.andThen, run_setObj_map hb, Array.getElem?_eq_getElem hi, hkey, run_keyThatStays_int .i64]
    · refine ⟨_, _, hsame _, ?_, by rw [i1]; exact hn, ?_, ?_⟩
      · rw [i2, Array.toList_modify, map_modify' _ _ (fun _ => (Value.int .i64 x, y)) (by intros; rfl), map_modify' _ _ (fun _ => (Value.int .i64 x, y)) (by intros; rfl), hl]
      · rw [Array.toList_modify, map_modify' _ _ id (by intros; rfl), List.modify_id]
        exact hbn
      · intro e1 he1
        rw [Array.toList_modify] at he1
        obtain ⟨j, hj⟩ := List.getElem?_of_mem he1
        rw [List.getElem?_modify] at hj
        cases hc : es.toList[j]? with
        | none => rw [hc] at hj; simp at hj
        | some e2 =>
          rw [hc] at hj
          have hm := hbc e2 (List.mem_of_getElem? hc)
          simp at hj
          split at hj <;> (subst hj; exact hm)
/-- 'delete(m, x)' -/
theorem MapI.delete {w : World} {b : Nat} {L : List (Int × Value)} (h : MapI w b L) {t k e ty : TypeId} {q : IntKind} (ht : P.underlying t = some (.map k e)) (hk : P.underlying k = some (.int q)) (x : Int) (T : Array TypeId) (hT : T[0]? = some t) :
    ∃ w', (Builtin.delete_ T ty #[.map (some b), .int .i64 x]).run P w = .ok (.tuple #[]) w' ∧ MapI w' b (delI L x) ∧ Upd (· = b) w w' ∧ w'.heap.size = w.heap.size := by
  have hlt := h.lt
  obtain ⟨es, clock, hb, hl, hn, hbn, hbc⟩ := h
  have hsame : ∀ o, (setBlock w b o).heap[b]? = some o := fun o => by simp [setBlock, Array.getElem?_setIfInBounds_self_of_lt hlt]
  have hdel : ∀ L : List (Int × Value), getI L x = none → delI L x = L := fun L hg => List.filter_eq_self.2 (fun p hp => by
    simp; rintro rfl; exact getI_none.1 hg (List.mem_map.2 ⟨p, hp, rfl⟩))
  cases hg : getI L x with
  | none =>
    refine ⟨setBlock w b (.map es clock), ?_, ?_, (Upd.refl (· = b) w).setBlock (.inl rfl) _, by simp [setBlock]⟩
    · simp [Builtin.delete_, hT, run_underlying ht, run_getObj_at hb, run_checkKey_int hk, run_findKey_int hk x w hl, hg, Result.andThen, run_setObj_map hb]
    · rw [hdel L hg]
      exact ⟨_, _, hsame _, hl, hn, hbn, hbc⟩
  | some v =>
    obtain ⟨_, _, i3, i4⟩ := putI_keys_old v hg
    have hlen : es.toList.length = L.length := by have := congrArg List.length hl; simpa using this
    have herase : ∀ L : List (Int × Value), (L.map (·.1)).Nodup → getI L x = some v → delI L x = L.eraseIdx (L.findIdx fun p => p.1 = x) := by
      intro L
      induction L with
      | nil => intro _ h; simp [getI] at h
      | cons p L ih =>
        obtain ⟨k, u⟩ := p
        intro hn h
        simp only [List.map_cons, List.nodup_cons] at hn
        unfold getI at h
        by_cases hx : x = k
        · subst hx
          have : delI L x = L := hdel L (getI_none.2 hn.1)
          simp only [delI] at this ⊢
          rw [List.filter_cons, this]
          simp [List.findIdx_cons]
        · rw [if_neg hx] at h
          have hd : decide (k = x) = false := by simp; exact fun e => hx e.symm
          have := ih hn.2 h
          simp only [delI] at this ⊢
          rw [List.filter_cons, this, List.findIdx_cons]
          simp [hd]
    refine ⟨setBlock w b (.map (es.eraseIdxIfInBounds (L.findIdx fun p => p.1 = x)) clock), ?_, ?_, (Upd.refl (· = b) w).setBlock (.inl rfl) _, by simp [setBlock]⟩
    · simp [Builtin.delete_, hT, run_underlying ht, run_getObj_at hb, run_checkKey_int hk, run_findKey_int hk x w hl, hg, Result.andThen, run_setObj_map hb]
    · have he : (es.eraseIdxIfInBounds (L.findIdx fun p => p.1 = x)).toList = es.toList.eraseIdx (L.findIdx fun p => p.1 = x) := by
        have hi : (L.findIdx fun p => p.1 = x) < es.size := by rw [← Array.length_toList, hlen]; exact i3
        simp [Array.eraseIdxIfInBounds, hi, Array.toList_eraseIdx]
      refine ⟨_, _, hsame _, ?_, ?_, ?_, ?_⟩
      · rw [he, herase L hn hg, map_eraseIdx', map_eraseIdx', hl]
      · exact List.Nodup.sublist (List.Sublist.map _ List.filter_sublist) hn
      · rw [he]; exact List.Nodup.sublist (List.Sublist.map _ (List.eraseIdx_sublist _ _)) hbn
      · intro e1 he1
        rw [he] at he1
        exact hbc e1 ((List.eraseIdx_sublist _ _).subset he1)
theorem MapI.len {w : World} {b : Nat} {L : List (Int × Value)} (h : MapI w b L) {t k e ty : TypeId} (ht : P.underlying t = some (.map k e)) (T : Array TypeId) (hT : T[0]? = some t) :
    (Builtin.len_ T ty #[.map (some b)]).run P w = .ok (.int .i64 L.length) w := by
  obtain ⟨es, clock, hb, hl, _⟩ := h
  have hlen : es.size = L.length := by have := congrArg List.length hl; simpa using this
  simp [Builtin.len_, hT, run_underlying ht, run_getObj_at hb, Result.andThen, hlen, goInt]

/-! ### ranging over such a map -/
/-- Block r is an iterator over map b (entries L); 'left' are those that it has not yet handed out. -/
def IterI (w : World) (r b : Nat) (L left : List (Int × Value)) : Prop :=
  ∃ es clock since seen c0, w.heap[r]? = some (.mapIter (some b) since seen c0) ∧ w.heap[b]? = some (.map es clock) ∧
    es.toList.map (fun e => (e.key, e.val)) = L.map (fun p => (Value.int .i64 p.1, p.2)) ∧ (L.map (·.1)).Nodup ∧ (es.toList.map (·.born)).Nodup ∧ (∀ e ∈ es.toList, e.born < clock) ∧
    (∀ x ∈ es.toList, x.born < since) ∧ since ≤ c0 ∧ since ≤ clock ∧ (leftOf es seen).toList.map (fun e => (e.key, e.val)) = left.map (fun p => (Value.int .i64 p.1, p.2)) ∧ ∀ p ∈ left, p ∈ L
theorem IterI.map {w : World} {r b : Nat} {L left : List (Int × Value)} (h : IterI w r b L left) : MapI w b L := by
  obtain ⟨es, clock, _, _, _, _, hb, h1, h2, h3, h4, _⟩ := h
  exact ⟨es, clock, hb, h1, h2, h3, h4⟩
theorem IterI.lt {w : World} {r b : Nat} {L left : List (Int × Value)} (h : IterI w r b L left) : r < w.heap.size := by
  obtain ⟨_, _, _, _, _, hr, _⟩ := h
  exact (Array.getElem?_eq_some_iff.1 hr).1
theorem IterI.same {w w' : World} {r b : Nat} {L left : List (Int × Value)} (h : IterI w r b L left) (hr : w'.heap[r]? = w.heap[r]?) (hb : w'.heap[b]? = w.heap[b]?) : IterI w' r b L left := by
  obtain ⟨es, clock, since, seen, c0, h1, h2, h3⟩ := h
  exact ⟨es, clock, since, seen, c0, hr.trans h1, hb.trans h2, h3⟩
theorem IterI.upd {S : Nat → Prop} {w w' : World} {r b : Nat} {L left : List (Int × Value)} (h : IterI w r b L left) (hu : Upd S w w') (hr : ¬ S r) (hb : ¬ S b) : IterI w' r b L left :=
  h.same (hu.block r h.lt hr) (hu.block b h.map.lt hb)
/-- 'range m' -/
theorem MapI.range {w : World} {b : Nat} {L : List (Int × Value)} (h : MapI w b L) {t k e : TypeId} (ht : P.underlying t = some (.map k e)) :
    ∃ w', (Instr.range t (.map (some b))).run P w = .ok (.pointer (some ⟨w.heap.size, 0, none⟩)) w' ∧ IterI w' w.heap.size b L L ∧ Upd No w w' ∧ w'.heap.size = w.heap.size + 1 := by
  have hlt := h.lt
  obtain ⟨es, clock, hb, hl, hn, hbn, hbc⟩ := h
  refine ⟨w.alloc (.mapIter (some b) clock #[] clock), by simp [Instr.range, run_underlying ht, run_getObj_at hb, Result.andThen], ?_, (Upd.refl _ w).alloc _, by simp⟩
  refine ⟨es, clock, clock, #[], clock, heap_alloc_new w _, (Below.heap_alloc w _ b hlt).trans hb, hl, hn, hbn, hbc, hbc, Nat.le_refl _, Nat.le_refl _, ?_, fun p hp => hp⟩
  rw [← hl]
  have : leftOf es #[] = es := by simp [leftOf]
  rw [this]
/-- One step: over, or one entry comes out, whichever the tape says. -/
theorem IterI.next {w : World} {r b : Nat} {L left : List (Int × Value)} (h : IterI w r b L left) :
    (left = [] ∧ ∀ ty, (Instr.next (.pointer (some ⟨r, 0, none⟩)) false ty).run P w = .ok (.tuple #[.bool false]) w) ∨
    ∃ k v l1 l2 w', left = l1 ++ (k, v) :: l2 ∧ (∀ ty, (Instr.next (.pointer (some ⟨r, 0, none⟩)) false ty).run P w = .ok (.tuple #[.bool true, .int .i64 k, v]) w') ∧
      (∀ w2 : World, w2.heap[r]? = w'.heap[r]? → w2.heap[b]? = w'.heap[b]? → (Instr.entry (.pointer (some ⟨r, 0, none⟩))).run P w2 = .ok (.tuple #[.int .i64 k, v]) w2) ∧
      IterI w' r b L (l1 ++ l2) ∧ Upd (· = r) w w' ∧ w'.heap.size = w.heap.size := by
  have hlt := h.lt
  obtain ⟨es, clock, since, seen, c0, hr, hb, hl, hn, hbn, hbc, hold, hsc, hcl, hleft, hsub⟩ := h
  have hbr : b ≠ r := fun e => by subst e; rw [hr] at hb; cases hb
  rcases run_next_at (P := P) w 0 r b since c0 seen es clock hr hb hold hsc with ⟨h0, hrun⟩ | ⟨e, he, w1, hw1, hrun⟩
  · left
    have : (leftOf es seen).toList = [] := by simpa using Array.eq_empty_of_size_eq_zero h0
    rw [this] at hleft
    exact ⟨by simpa using hleft.symm, fun _ => hrun⟩
  · right
    obtain ⟨hees, _⟩ := mem_left he
    obtain ⟨a1, a2, ha⟩ := List.append_of_mem he
    rw [ha, List.map_append, List.map_cons] at hleft
    obtain ⟨l1, l', rfl, hl1, hl'⟩ := List.append_eq_map_iff.1 hleft
    obtain ⟨p, l2, rfl, hp, hl2⟩ := List.map_eq_cons_iff.1 hl'
    obtain ⟨k, v⟩ := p
    simp only [Prod.mk.injEq] at hp
    have hkey : e.key = .int .i64 k := hp.1.symm
    have hval : e.val = v := hp.2.symm
    have h1 : w1.heap = w.heap := by rcases hw1 with rfl | rfl <;> rfl
    have hr' : (setBlock w1 r (.mapIter (some b) since (seen.push e.born) clock)).heap[r]? = some (.mapIter (some b) since (seen.push e.born) clock) := by
      simp [setBlock, h1, Array.getElem?_setIfInBounds_self_of_lt hlt]
    have hb' : (setBlock w1 r (.mapIter (some b) since (seen.push e.born) clock)).heap[b]? = some (.map es clock) := by
      simp only [setBlock, h1, Array.getElem?_setIfInBounds_ne (Ne.symm hbr), hb]
    have hnew : (leftOf es (seen.push e.born)).toList = a1 ++ a2 := by
      have e1 : (leftOf es (seen.push e.born)).toList = (leftOf es seen).toList.filter (fun x => x.born ≠ e.born) := by
        simp only [leftOf, Array.toList_filter, List.filter_filter]
        apply List.filter_congr
        intro x _
        simp only [Array.contains_push, Bool.not_or, decide_not, Bool.and_comm]
        by_cases hxe : x.born = e.born <;> simp [hxe, Bool.and_comm]
      rw [e1, ha]
      have hnd : ((a1 ++ e :: a2).map (·.born)).Nodup := by
        rw [← ha]
        simp only [leftOf, Array.toList_filter]
        exact List.Nodup.sublist (List.Sublist.map _ List.filter_sublist) hbn
      rw [List.map_append, List.map_cons, List.nodup_append] at hnd
      obtain ⟨_, hn2, hn3⟩ := hnd
      rw [List.nodup_cons] at hn2
      rw [List.filter_append, List.filter_cons]
      have f1 : a1.filter (fun x => x.born ≠ e.born) = a1 := List.filter_eq_self.2 (fun x hx => by
        simp; exact hn3 _ (List.mem_map.2 ⟨x, hx, rfl⟩) _ (by simp))
      have f2 : a2.filter (fun x => x.born ≠ e.born) = a2 := List.filter_eq_self.2 (fun x hx => by
        simp; intro e0; exact hn2.1 (List.mem_map.2 ⟨x, hx, e0⟩))
      rw [f1, f2]
      simp
    refine ⟨k, v, l1, l2, _, rfl, fun ty => by rw [← hkey, ← hval]; exact hrun, ?_, ⟨es, clock, since, seen.push e.born, clock, hr', hb', hl, hn, hbn, hbc, hold, hcl, hcl, ?_, ?_⟩, ?_, by simp [setBlock, h1]⟩
    · intro w2 hw2 hw3
      rw [run_entry_at (P := P) w2 r b since seen es clock e (hw2.trans hr') (hw3.trans hb') hees hbn, hkey, hval]
    · rw [hnew, List.map_append, List.map_append, hl1, hl2]
    · intro p hp
      refine hsub p ?_
      simp only [List.mem_append, List.mem_cons] at hp ⊢
      rcases hp with hp | hp <;> simp [hp]
    · have hu : Upd (· = r) w w1 := by rcases hw1 with rfl | rfl; exact Upd.refl _ _; exact (Upd.refl _ _).drew
      exact hu.setBlock (.inl rfl) _
end Go.Proofs.YtkfnaahkfogcoaaDoor
