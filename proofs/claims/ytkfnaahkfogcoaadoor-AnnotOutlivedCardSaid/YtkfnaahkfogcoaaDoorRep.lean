/- What a value in memory stands for: data that is only read. 'D': the blocks in which it may lie. -/
import Derived.Test.YtkfnaahkfogcoaaDoorRow
namespace Go.Proofs.YtkfnaahkfogcoaaDoor
open Go.RowKit

abbrev Rep (α : Type) := (Nat → Prop) → World → List Value → α → Prop
/-- A way of standing for things that takes so many cells, and hangs on the blocks of D alone. -/
structure Good {α : Type} (R : Rep α) (sz : Nat) : Prop where
  len : ∀ {D w vs x}, R D w vs x → vs.length = sz
  keep : ∀ {D D' w w' vs x}, R D w vs x → (∀ k, D k → k < w.heap.size → D' k ∧ w'.heap[k]? = w.heap[k]?) → R D' w' vs x
  one : ∀ {D w vs x}, R D w vs x → ∀ u ∈ vs, u.oneCell' = true

def Flat {α : Type} (enc : α → List Value) : Rep α := fun _ _ vs x => vs = enc x
theorem good_flat {α : Type} {enc : α → List Value} {sz : Nat} (h : ∀ x, (enc x).length = sz) (h1 : ∀ x, ∀ u ∈ enc x, u.oneCell' = true) : Good (Flat enc) sz :=
  ⟨fun e => by cases e; exact h _, fun e _ => e, fun e => by cases e; exact h1 _⟩

/-- A slice of such things. -/
def RS {α : Type} (R : Rep α) (sz : Nat) (D : Nat → Prop) (w : World) (v : Value) (xs : List α) : Prop :=
  ∃ a c, v = .slice a xs.length c ∧ xs.length ≤ c ∧ Sec (xs.length ≤ 9223372036854775807) ∧
    Sec (0 < xs.length → ∃ b off, a = some ⟨b, off, none⟩ ∧ D b ∧ b < w.heap.size ∧ ∀ (i : Nat) (x : α), xs[i]? = some x → ∃ vs, R D w vs x ∧ ∀ j u, vs[j]? = some u → w.cell? ⟨b, off + i * sz + j, none⟩ = some u)
def RSl {α : Type} (R : Rep α) (sz : Nat) : Rep (List α) := fun D w vs xs => ∃ v, vs = [v] ∧ RS R sz D w v xs

theorem RS.keep {α : Type} {R : Rep α} {sz : Nat} (g : Good R sz) {D D' : Nat → Prop} {w w' : World} {v : Value} {xs : List α} (h : RS R sz D w v xs) (hk : ∀ k, D k → k < w.heap.size → D' k ∧ w'.heap[k]? = w.heap[k]?) : RS R sz D' w' v xs := by
  obtain ⟨a, c, rfl, hc, hm, h⟩ := h
  refine ⟨a, c, rfl, hc, hm, ⟨fun hx => ?_⟩⟩
  obtain ⟨b, off, rfl, hD, hb, hr⟩ := h.out hx
  obtain ⟨hD', hh⟩ := hk b hD hb
  refine ⟨b, off, rfl, hD', ?_, fun i x hi => ?_⟩
  · rw [Array.getElem?_eq_getElem hb] at hh
    exact (Array.getElem?_eq_some_iff.1 hh).1
  · obtain ⟨vs, h1, h2⟩ := hr i x hi
    exact ⟨vs, g.keep h1 hk, fun j u hu => (World.cell?_of_block (w := w) hh).trans (h2 j u hu)⟩
theorem RS.upd {α : Type} {R : Rep α} {sz : Nat} (g : Good R sz) {D S : Nat → Prop} {w w' : World} {v : Value} {xs : List α} (h : RS R sz D w v xs) (hu : Upd S w w') (hs : ∀ k, D k → ¬ S k) : RS R sz D w' v xs :=
  h.keep g (fun k hD hk => ⟨hD, hu.block k hk (hs k hD)⟩)
theorem good_slice {α : Type} {R : Rep α} {sz : Nat} (g : Good R sz) : Good (RSl R sz) 1 :=
  ⟨fun ⟨_, h, _⟩ => by rw [h]; rfl, fun ⟨v, h, r⟩ hk => ⟨v, h, r.keep g hk⟩, fun ⟨v, h, a, c, e, _⟩ u hu => by subst h; simp at hu; subst hu; subst e; rfl⟩
theorem RS.nil {α : Type} (R : Rep α) (sz : Nat) (D : Nat → Prop) (w : World) (a : Option Addr) (c : Nat) : RS R sz D w (.slice a 0 c) [] := ⟨a, c, rfl, by simp, ⟨by simp⟩, ⟨fun h => absurd h (by simp)⟩⟩

/-- A row of the call's own that holds such things. -/
def OwnS {α : Type} (R : Rep α) (T : TypeId) (sz : Nat) (D : Nat → Prop) (w : World) (base : Nat) (v : Value) (xs : List α) : Prop :=
  ∃ cs : List (List Value), cs.length = xs.length ∧ (∀ c ∈ cs, c.length = sz) ∧ w.ownsRow base T sz v xs.length cs.flatten ∧ ∀ (i : Nat) (x : α) (vs : List Value), xs[i]? = some x → cs[i]? = some vs → R D w vs x

theorem flatten_at {sz : Nat} : ∀ (cs : List (List Value)), (∀ c ∈ cs, c.length = sz) → ∀ (i j : Nat) (vs : List Value) (u : Value), cs[i]? = some vs → vs[j]? = some u → cs.flatten[i * sz + j]? = some u
  | [], _, i, j, vs, u, h, _ => by simp at h
  | c :: cs, hc, 0, j, vs, u, h, hu => by
    simp only [List.getElem?_cons_zero, Option.some.injEq] at h
    subst h
    have := (List.getElem?_eq_some_iff.1 hu).1
    rw [List.flatten_cons, Nat.zero_mul, Nat.zero_add, List.getElem?_append_left this]
    exact hu
  | c :: cs, hc, i + 1, j, vs, u, h, hu => by
    have hl := hc c (by simp)
    rw [List.flatten_cons, List.getElem?_append_right (by rw [hl, Nat.add_mul]; omega), hl]
    have e : (i + 1) * sz + j - sz = i * sz + j := by rw [Nat.add_mul]; omega
    rw [e]
    exact flatten_at cs (fun c h => hc c (by simp [h])) i j vs u (by simpa using h) hu
theorem flatten_len {sz : Nat} : ∀ (cs : List (List Value)), (∀ c ∈ cs, c.length = sz) → cs.flatten.length = cs.length * sz
  | [], _ => by simp
  | c :: cs, hc => by
    rw [List.flatten_cons, List.length_append, flatten_len cs (fun c h => hc c (by simp [h])), hc c (by simp), List.length_cons, Nat.add_mul]; omega

theorem OwnS.rs {α : Type} {R : Rep α} {T : TypeId} {sz : Nat} {D : Nat → Prop} {w : World} {base : Nat} {v : Value} {xs : List α} (g : Good R sz) (h : OwnS R T sz D w base v xs) {D' : Nat → Prop} (hD : ∀ k, D k → D' k) (hv : ∀ k, v.ownBlock = some k → D' k) : RS R sz D' w v xs := by
  obtain ⟨cs, h1, h2, h3, h4⟩ := h
  rcases h3.2 with ⟨rfl, h5⟩ | ⟨b, cap, cur, rfl, _, hb, h6, h7, h8, h9⟩
  · have hx := List.eq_nil_of_length_eq_zero h5
    subst hx
    exact RS.nil R sz D' w none 0
  · have hm : xs.length ≤ 9223372036854775807 := by unfold maxLen at h7; omega
    refine ⟨_, cap, rfl, h6, ⟨hm⟩, ⟨fun _ => ⟨b, 0, rfl, hv b rfl, (Array.getElem?_eq_some_iff.1 hb).1, fun i x hi => ?_⟩⟩⟩
    have hil : i < xs.length := (List.getElem?_eq_some_iff.1 hi).1
    obtain ⟨vs, hvs⟩ : ∃ vs, cs[i]? = some vs := ⟨_, List.getElem?_eq_getElem (by omega)⟩
    refine ⟨vs, g.keep (h4 i x vs hi hvs) (fun k hk _ => ⟨hD k hk, rfl⟩), fun j u hu => ?_⟩
    have hf := flatten_at cs h2 i j vs u hvs hu
    have hlt := (List.getElem?_eq_some_iff.1 hf).1
    rw [h3.1] at hlt
    rw [World.ownsRow.cellAt h3 _ (by omega), ← hf]
    congr 1
    omega
theorem OwnS.upd {α : Type} {R : Rep α} {T : TypeId} {sz : Nat} {D S : Nat → Prop} {w w' : World} {base : Nat} {v : Value} {xs : List α} (g : Good R sz) (h : OwnS R T sz D w base v xs) (hu : Upd S w w') (hs : ∀ k, v.ownBlock = some k → ¬ S k) (hd : ∀ k, D k → ¬ S k) : OwnS R T sz D w' base v xs := by
  obtain ⟨cs, h1, h2, h3, h4⟩ := h
  exact ⟨cs, h1, h2, own_upd h3 hu hs, fun i x vs hi hvs => g.keep (h4 i x vs hi hvs) (fun k hk hl => ⟨hk, hu.block k hl (hd k hk)⟩)⟩
theorem OwnS.mono {α : Type} {R : Rep α} {T : TypeId} {sz : Nat} {D : Nat → Prop} {w : World} {base base' : Nat} {v : Value} {xs : List α} (h : OwnS R T sz D w base v xs) (hb : base' ≤ base) : OwnS R T sz D w base' v xs := by
  obtain ⟨cs, h1, h2, h3, h4⟩ := h
  exact ⟨cs, h1, h2, own_mono h3 hb, h4⟩
theorem OwnS.empty {α : Type} (R : Rep α) (T : TypeId) (sz : Nat) (D : Nat → Prop) (w : World) (base : Nat) : OwnS R T sz D w base (.slice none 0 0) [] := ⟨[], rfl, by simp, World.ownsRow_nil _ _ _ _, by simp⟩
theorem OwnS.made {α : Type} (R : Rep α) (T : TypeId) (sz : Nat) (D : Nat → Prop) (w : World) (base : Nat) (hb : base ≤ w.heap.size) : OwnS R T sz D (w.alloc (.cells #[] T)) base (.slice (some ⟨w.heap.size, 0, none⟩) 0 0) [] :=
  ⟨[], rfl, by simp, by simpa using World.ownsRow_made (base := base) (e := T) (size := sz) w #[] 0 hb (by simp) (by simp), by simp⟩
theorem OwnS.new {α : Type} {R : Rep α} {T : TypeId} {sz : Nat} {D : Nat → Prop} {w : World} {base : Nat} {v : Value} {xs : List α} (h : OwnS R T sz D w base v xs) : ∀ k, v.ownBlock = some k → base ≤ k ∧ k < w.heap.size := by
  obtain ⟨cs, h1, h2, h3, h4⟩ := h
  exact fun k hk => h3.lt k hk
theorem OwnS.slice {α : Type} {R : Rep α} {T : TypeId} {sz : Nat} {D : Nat → Prop} {w : World} {base : Nat} {v : Value} {xs : List α} (h : OwnS R T sz D w base v xs) : ∃ a c, v = .slice a xs.length c := by
  obtain ⟨cs, h1, h2, h3, h4⟩ := h
  rcases h3.2 with ⟨rfl, h5⟩ | ⟨b, cap, cur, rfl, _⟩
  · exact ⟨Option.none, 0, by rw [h5]⟩
  · exact ⟨_, cap, rfl⟩
/-- What is known of element i. -/
theorem RS.at_ {α : Type} {R : Rep α} {sz : Nat} {D : Nat → Prop} {w : World} {a : Option Addr} {n c : Nat} {xs : List α} (h : RS R sz D w (.slice a n c) xs) {i : Nat} (hi : i < xs.length) :
    ∃ b off x vs, a = some ⟨b, off, none⟩ ∧ D b ∧ b < w.heap.size ∧ xs[i]? = some x ∧ R D w vs x ∧ ∀ j u, vs[j]? = some u → w.cell? ⟨b, off + i * sz + j, none⟩ = some u := by
  obtain ⟨a', c', e, _, _, h⟩ := h
  cases e
  obtain ⟨b, off, h1, h2, h3, h4⟩ := h.out (by omega)
  obtain ⟨vs, h5, h6⟩ := h4 i xs[i] (List.getElem?_eq_getElem hi)
  exact ⟨b, off, xs[i], vs, h1, h2, h3, List.getElem?_eq_getElem hi, h5, h6⟩
theorem RS.form {α : Type} {R : Rep α} {sz : Nat} {D : Nat → Prop} {w : World} {v : Value} {xs : List α} (h : RS R sz D w v xs) : ∃ a c, v = .slice a xs.length c ∧ xs.length ≤ c ∧ xs.length ≤ 9223372036854775807 := by
  obtain ⟨a, c, e, h1, h2, _⟩ := h
  exact ⟨a, c, e, h1, h2.out⟩

section
variable {P : Program} {ops : Array Oper} {rest : List Oper} {o : Oper} {a : Act} {Q : Exit → Act → World → Prop}
/-- append(s, x), x boxed in the last block. -/
theorem appO {α : Type} {R : Rep α} {W : World} (D : Nat → Prop) (base : Nat) (hgd : o.guard = none) (s x : Operand) (t e : TypeId) (z : Value) (size bytes : Nat) (g : Good R size)
    (ho : o.op = .call { callee := .builtin .append, args := #[s, x], argTypes := #[t, t] })
    (ht : P.underlying t = some (.slice e)) (hinfo : (P.info? e).map (fun i => (i.zero, i.size, i.bytes)) = some (some z, size, bytes)) (hz : z.cells.size = size) (hsz : 0 < size) (hb0 : 0 < bytes)
    (v : Value) (xs : List α) (cs : Array Value) (y : α) (hs : a.eval s = v) (hx : a.eval x = .slice (some ⟨W.heap.size, 0, none⟩) 1 1) (hy : R D W cs.toList y)
    (HO : OwnS R e size D W base v xs) (hbase : base ≤ W.heap.size) (hl : (xs.length + 1) * bytes ≤ 140737488355328) (hDv : ∀ k, D k → some k ≠ v.ownBlock)
    (h : ∀ v1 w1, OwnS R e size D w1 base v1 (xs ++ [y]) → Upd (fun k => some k = v.ownBlock) W w1 → (∀ k, some k = v1.ownBlock → some k = v.ownBlock ∨ W.heap.size ≤ k) → wpList P ops Q rest (a.put o.dst v1) w1) :
    wpList P ops Q (o :: rest) a (W.alloc (.cells cs e)) := by
  obtain ⟨ls, h1, h2, h3, h4⟩ := HO
  have hlen := g.len hy
  refine app1 base hgd s x t e z size bytes ho ht hinfo hz hsz hb0 v _ _ cs hs hx (by simpa using hlen) (g.one hy) h3 hbase hl (fun v1 w1 ho1 hu1 hn1 => h v1 w1 ⟨ls ++ [cs.toList], by simp [h1], ?_, ?_, ?_⟩ hu1 hn1)
  · intro c hc
    rcases List.mem_append.1 hc with hc | hc
    · exact h2 c hc
    · simp at hc; subst hc; simpa using hlen
  · simpa using ho1
  · intro i z' vs hi hvs
    have hk : ∀ {vs z'}, R D W vs z' → R D w1 vs z' := fun hr => g.keep hr (fun k hk hl => ⟨hk, hu1.block k hl (fun e => hDv k hk e)⟩)
    rcases Nat.lt_or_ge i xs.length with hlt | hge
    · rw [List.getElem?_append_left hlt] at hi
      rw [List.getElem?_append_left (by omega)] at hvs
      exact hk (h4 i z' vs hi hvs)
    · rw [List.getElem?_append_right hge] at hi
      rw [List.getElem?_append_right (by omega)] at hvs
      have : i = xs.length := by
        have := (List.getElem?_eq_some_iff.1 hi).1
        simp at this; omega
      subst this
      simp [h1] at hi hvs
      subst hi hvs
      exact hk hy
/-- append(s, none at all) is s. -/
theorem run_append_zero (w : World) (base : Nat) (t ty e : TypeId) (i : TypeInfo) (size : Nat) (ht : P.underlying t = some (.slice e)) (hi : P.info? e = some i)
    (v : Value) (n : Nat) (xs : List Value) (hown : w.ownsRow base e size v n xs) (ad : Option Addr) (c : Nat) :
    (Builtin.append_ #[t, t] ty #[v, .slice ad 0 c]).run P w = .ok v w := by
  rcases hown.2 with ⟨rfl, rfl⟩ | ⟨g, cap, cur, rfl, hbg, hg, hnc, hcm, hcs, htake⟩
  · cases ad <;> simp [Builtin.append_, run_underlying ht, sizeOf, typeInfo, hi, Builtin.lenOf, Builtin.firstCells, loadCells, loadCellsFrom]
  · cases ad <;> simp [Builtin.append_, run_underlying ht, sizeOf, typeInfo, hi, Builtin.lenOf, Builtin.firstCells, loadCells, loadCellsFrom, hnc, storeCells]
theorem flatten_get {sz : Nat} : ∀ (cs : List (List Value)), (∀ c ∈ cs, c.length = sz) → ∀ (j : Nat) (u : Value), cs.flatten[j]? = some u → ∃ i r vs, j = i * sz + r ∧ cs[i]? = some vs ∧ vs[r]? = some u
  | [], _, j, u, h => by simp at h
  | c :: cs, hc, j, u, h => by
    have hl := hc c (by simp)
    rcases Nat.lt_or_ge j c.length with hj | hj
    · rw [List.flatten_cons, List.getElem?_append_left hj] at h
      exact ⟨0, j, c, by omega, rfl, h⟩
    · rw [List.flatten_cons, List.getElem?_append_right hj] at h
      obtain ⟨i, r, vs, h1, h2, h3⟩ := flatten_get cs (fun c h => hc c (by simp [h])) _ u h
      exact ⟨i + 1, r, vs, by rw [Nat.add_mul]; omega, by simpa using h2, h3⟩
/-- The cells of all elements. -/
theorem RS.rows {α : Type} {R : Rep α} {sz : Nat} {D : Nat → Prop} {w : World} {b off : Nat} (g : Good R sz) : ∀ {xs : List α}, (∀ (i : Nat) (x : α), xs[i]? = some x → ∃ vs, R D w vs x ∧ ∀ j u, vs[j]? = some u → w.cell? ⟨b, off + i * sz + j, none⟩ = some u) →
    ∃ cs : List (List Value), cs.length = xs.length ∧ (∀ c ∈ cs, c.length = sz) ∧ (∀ (i : Nat) (x : α) (vs : List Value), xs[i]? = some x → cs[i]? = some vs → R D w vs x) ∧ ∀ (i : Nat) (vs : List Value), cs[i]? = some vs → ∀ j u, vs[j]? = some u → w.cell? ⟨b, off + i * sz + j, none⟩ = some u := by
  intro xs
  induction xs generalizing off with
  | nil => intro _; exact ⟨[], rfl, by simp, by simp, by simp⟩
  | cons x xs ih =>
    intro h
    obtain ⟨vs, h1, h2⟩ := h 0 x rfl
    obtain ⟨cs, k1, k2, k3, k4⟩ := ih (off := off + sz) (fun i y hy => by
      obtain ⟨vs, r1, r2⟩ := h (i + 1) y (by simpa using hy)
      refine ⟨vs, r1, fun j u hu => ?_⟩
      have := r2 j u hu
      rw [Nat.add_mul] at this
      rw [← this]; congr 2; omega)
    refine ⟨vs :: cs, by simp [k1], ?_, ?_, ?_⟩
    · intro c hc
      rcases List.mem_cons.1 hc with rfl | hc
      · exact g.len h1
      · exact k2 c hc
    · intro i y vs' hi hv
      cases i with
      | zero => simp at hi hv; subst hi hv; exact h1
      | succ i => exact k3 i y vs' (by simpa using hi) (by simpa using hv)
    · intro i vs' hv j u hu
      cases i with
      | zero => simp at hv; subst hv; exact h2 j u hu
      | succ i =>
        have := k4 i vs' (by simpa using hv) j u hu
        rw [← this, Nat.add_mul]; congr 2; omega
/-- append(s, y...). -/
theorem appS {α : Type} {R : Rep α} {W : World} (D D' : Nat → Prop) (base : Nat) (hgd : o.guard = none) (s x : Operand) (t e : TypeId) (z : Value) (size bytes : Nat) (g : Good R size)
    (ho : o.op = .call { callee := .builtin .append, args := #[s, x], argTypes := #[t, t] })
    (ht : P.underlying t = some (.slice e)) (hinfo : (P.info? e).map (fun i => (i.zero, i.size, i.bytes)) = some (some z, size, bytes)) (hz : z.cells.size = size) (hsz : 0 < size) (hb0 : 0 < bytes)
    (v : Value) (xs : List α) (vy : Value) (ys : List α) (hs : a.eval s = v) (hx : a.eval x = vy) (hy : RS R size D' W vy ys) (hDD : ∀ {vs x}, R D' W vs x → R D W vs x)
    (HO : OwnS R e size D W base v xs) (hbase : base ≤ W.heap.size) (hl : (xs.length + ys.length) * bytes ≤ 140737488355328) (hDv : ∀ k, D k → some k ≠ v.ownBlock)
    (h : ∀ v1 w1, OwnS R e size D w1 base v1 (xs ++ ys) → Upd (fun k => some k = v.ownBlock) W w1 → (∀ k, some k = v1.ownBlock → some k = v.ownBlock ∨ W.heap.size ≤ k) → wpList P ops Q rest (a.put o.dst v1) w1) :
    wpList P ops Q (o :: rest) a W := by
  obtain ⟨i0, hi, hzz⟩ := Option.map_eq_some_iff.1 hinfo
  simp only [Prod.mk.injEq] at hzz
  obtain ⟨hz0, hz1, hz2⟩ := hzz
  have hlen : xs.length + ys.length ≤ 140737488355328 := Nat.le_trans (Nat.le_mul_of_pos_right _ hb0) hl
  have HO' := HO
  obtain ⟨ls, h1, h2, h3, h4⟩ := HO
  obtain ⟨ad, c, rfl, hc, hm, hr⟩ := hy
  rcases Nat.eq_zero_or_pos ys.length with h0 | hpos
  · have hyn := List.eq_nil_of_length_eq_zero h0
    subst hyn
    refine wpList_plain hgd fun K hK => ?_
    have hrun := run_append_zero (P := P) W base t o.type e i0 size ht hi v _ _ h3 ad c
    unfold Oper.wp execOp
    simp only [List.length_nil] at hx
    simp only [ho, resolve, invoke, builtin, Sem.run_bind, Sem.run_pure, Result.andThen_ok, List.map_toArray, List.map_cons, List.map_nil, hs, hx, hrun]
    exact hK _ _ (h v W (by simpa using HO') (Upd.refl _ _) (fun k hk => .inl hk))
  · obtain ⟨b, off, rfl, hD, hb, hrr⟩ := hr.out hpos
    obtain ⟨cs, k1, k2, k3, k4⟩ := RS.rows g hrr
    refine wpList_append_own_at W hgd s x t ho base e i0 z size bytes ht hi hz0 hz1 hz2 hz hsz v xs.length ls.flatten hs h3 ⟨b, off, none⟩ ys.length c cs.flatten hx (by rw [flatten_len cs k2, k1]) ?_ ?_ (by simp only [maxLen]; omega) hl hbase ?_
    · intro j u hu
      obtain ⟨i, r, vs, e1, e2, e3⟩ := flatten_get cs k2 j u hu
      have := k4 i vs e2 r u e3
      rw [Addr.add_lit, e1, ← this]; congr 2; omega
    · intro u hu
      obtain ⟨vs, hvs, huv⟩ := List.mem_flatten.1 hu
      obtain ⟨i, hi2⟩ := List.getElem?_of_mem hvs
      have hil := (List.getElem?_eq_some_iff.1 hi2).1
      exact g.one (k3 i _ vs (List.getElem?_eq_getElem (by omega)) hi2) u huv
    · intro v1 w1 hown hg _ hat
      refine h v1 w1 ⟨ls ++ cs, by simp [h1, k1], ?_, ?_, ?_⟩ (upd_of_grown hg) (fun k hk => ?_)
      · intro c hc
        rcases List.mem_append.1 hc with hc | hc
        · exact h2 c hc
        · exact k2 c hc
      · simpa using hown
      · intro i z' vs hi hvs
        have hk : ∀ {vs z'}, R D W vs z' → R D w1 vs z' := fun hr => g.keep hr (fun k hk hl => ⟨hk, hg.block k hl (fun e => hDv k hk e)⟩)
        rcases Nat.lt_or_ge i xs.length with hlt | hge
        · rw [List.getElem?_append_left hlt] at hi
          rw [List.getElem?_append_left (by omega)] at hvs
          exact hk (h4 i z' vs hi hvs)
        · rw [List.getElem?_append_right hge] at hi
          rw [List.getElem?_append_right (by omega), h1] at hvs
          exact hk (hDD (k3 _ z' vs hi hvs))
      · rcases hat with hat | hat
        · exact .inl (hk.trans hat)
        · rw [hat] at hk; simp at hk; exact .inr (by omega)
end
/-- l[k:]. -/
theorem RS.drop {α : Type} {R : Rep α} {sz : Nat} {D : Nat → Prop} {w : World} {a : Option Addr} {n c : Nat} {xs : List α} (h : RS R sz D w (.slice a n c) xs) (k : Nat) (hk : k ≤ xs.length) :
    RS R sz D w (sliced a k n c sz) (xs.drop k) := by
  obtain ⟨a', c', e, hc, hm, hr⟩ := h
  cases e
  have hm := hm.out
  refine ⟨if c = k then a else a.map (·.add (k * sz)), c - k, by simp only [sliced, List.length_drop], by rw [List.length_drop]; omega, ⟨by rw [List.length_drop]; omega⟩, ⟨fun hp => ?_⟩⟩
  rw [List.length_drop] at hp
  obtain ⟨b, off, rfl, hD, hb, hr⟩ := hr.out (by omega)
  refine ⟨b, off + k * sz, by rw [if_neg (by omega), Option.map_some, Addr.add_lit], hD, hb, fun i x hi => ?_⟩
  rw [List.getElem?_drop] at hi
  obtain ⟨vs, h1, h2⟩ := hr _ x hi
  refine ⟨vs, h1, fun j u hu => ?_⟩
  have := h2 j u hu
  rw [← this, Nat.add_mul]; congr 2; omega
/-- The step l[k:]. -/
theorem slice_from {α : Type} {R : Rep α} {size : Nat} {P : Program} {ops : Array Oper} {rest : List Oper} {o : Oper} {a : Act} {Q : Exit → Act → World → Prop} {W : World} (D : Nat → Prop) (hgd : o.guard = none) (s lo : Operand) (t e : TypeId) (z : Value) (bytes : Nat)
    (ho : o.op = .slice t s (some lo) none none) (ht : P.underlying t = some (.slice e)) (he : P.elem t = e) (hinfo : (P.info? e).map (fun i => (i.zero, i.size, i.bytes)) = some (some z, size, bytes))
    (v : Value) (xs : List α) (k : Nat) (hs : a.eval s = v) (hlo : a.eval lo = .int .i64 k) (hv : RS R size D W v xs) (hk : k ≤ xs.length)
    (h : ∀ v1, RS R size D W v1 (xs.drop k) → wpList P ops Q rest (a.put o.dst v1) W) :
    wpList P ops Q (o :: rest) a W := by
  obtain ⟨i0, hi, hzz⟩ := Option.map_eq_some_iff.1 hinfo
  simp only [Prod.mk.injEq] at hzz
  obtain ⟨hz0, hz1, hz2⟩ := hzz
  obtain ⟨ad, c, rfl, hc, hm⟩ := hv.form
  subst he
  refine wpList_plain hgd fun K hK => ?_
  have hrun := run_slice_l (P := P) W t ad xs.length c ht .i64 k (by omega) (by omega)
  have hat := run_sliceAt_slice (P := P) W t (.slice ad xs.length c) (some (.int .i64 k)) none none ht
  have hsz : (sizeOf (P.elem t)).run P W = .ok size W := by simp [sizeOf, typeInfo, hi, hz1]
  unfold Oper.wp execOp
  simp only [ho, Option.map_some, Option.map_none, hs, hlo, Sem.run_bind, Sem.run_pure, hat, hrun, hsz, Result.andThen]
  refine hK _ _ (h _ ?_)
  have := hv.drop k hk
  rwa [Int.toNat_natCast]
end Go.Proofs.YtkfnaahkfogcoaaDoor
