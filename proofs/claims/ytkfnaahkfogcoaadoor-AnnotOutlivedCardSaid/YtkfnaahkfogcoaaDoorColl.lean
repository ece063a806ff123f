/- slices.Collect at ints, over whatever hands on ints; then a tree's walk, intervals, who is within whom. -/
import Derived.Test.YtkfnaahkfogcoaaDoorWalk
import Derived.OneCell
import Derived.Deep.RegionHeld3
namespace Go.Proofs.YtkfnaahkfogcoaaDoor
open Go.RowKit Go.Shelf
attribute [local go_sem] Oper.semAt_some

/-- What holds between two rounds: the box bx holds a row that the call owns, the ints that have come. -/
def CollI (bx base : Nat) (w : World) (O : Nat → Prop) (ys : List Int) (V : World) : Prop :=
  ∃ v, V.heap[bx]? = some (.cells #[v] 28 (0, 0)) ∧ OwnI V base v ys ∧ (O = fun k => k = bx ∨ some k = v.ownBlock) ∧ Upd (fun k => k = bx) w V

set_option maxHeartbeats 1000000 in
theorem appendSeq_calls {gf : FuncId} {lb : Array Value} {xs : List Int} {keep : Nat → Prop} (w : World) (eg : ∀ args w, (callFunc gf args).run Tryd.prog w = .ok (.enter gf args) w) (hk : ∀ k, keep k → k < w.heap.size)
    (hseq : SeqO Tryd.prog gf lb (fun x => #[.int .i64 x]) xs keep w) (hx : xs.length ≤ 1000000000) :
    Calls Tryd.prog 26 #[.slice none 0 0, .func (.func gf) #[] lb] w fun e w' => ∃ v, e = .returned v ∧ OwnI w' w.heap.size v xs ∧ Upd No w w' := by
  refine calls_marks Tryd.func26 rfl ?_
  simp only [Tryd.ntmps26, List.size_toArray, List.length_cons, List.length_nil, Nat.reduceAdd, Nat.reduceSub, Array.replicate_succ, Array.replicate_zero, List.push_toArray, List.append_toArray, List.nil_append, List.cons_append]
  have wf := wide_fn
  have wd := wide_depth
  gi_wp2
  generalize hW : w.alloc (.cells #[.slice none 0 0] 28) = W
  have hu : Upd No w W := by rw [← hW]; exact (Upd.refl No w).alloc _
  have hs : W.heap.size = w.heap.size + 1 := by rw [← hW]; simp
  have hbox : W.heap[w.heap.size]? = some (.cells #[.slice none 0 0] 28 (0, 0)) := by rw [← hW]; exact heap_alloc_new w _
  have hseqW : SeqO Tryd.prog gf lb (fun x => #[.int .i64 x]) xs keep W := by
    intro n l J Jx V O huV
    exact hseq n l J Jx V O (hu.mono (fun _ _ e => e.elim) |>.step huV)
  have hWs : w.heap.size < W.heap.size := by omega
  clear hW hseq hs
  refine range_law rfl eg hseqW (fun _ => rfl) ?g1
    (CollI w.heap.size W.heap.size W) (fun _ _ _ _ => False) ?g3 ?g4 (fun k => k = w.heap.size) ?g2 ?g2b ?g0 ?g5 ?g6 ?g7
  case g1 => intro k h; have := hk k h; omega
  case g2 => intro k h; omega
  case g2b => intro k h e; have := hk k h; omega
  case g0 =>
    refine ⟨_, hbox, World.ownsRow_nil _ _ _ _, ?_, Upd.refl _ _⟩
    funext k
    simp [Value.ownBlock]
  case g3 =>
    rintro O ys V V' ⟨v, h1, h2, rfl, h4⟩ huV
    refine ⟨v, (huV.block _ (Array.getElem?_eq_some_iff.1 h1).1 (fun h => h.2 (.inl rfl))).trans h1, own_upd h2 huV (fun k hk h => h.2 (.inr hk.symm)), rfl, h4.trans huV (fun k hk h => by omega)⟩
  case g4 => exact fun _ _ _ _ _ h => h.elim
  case g7 => exact fun _ _ _ _ _ _ _ _ h => h.elim
  case g6 =>
    rintro D O V hD hOD ⟨v, h1, h2, rfl, h4⟩ hd
    have hc := cell_of_one h1
    obtain ⟨a, c, rfl, _⟩ := h2.read
    gi_wp2
    refine leaves_marks [D] _ (by simp) (by simpa using hd) (fun w' hu' hs' => ⟨_, results_tmp rfl _ _ _, _, rfl, ?_, (hu.trans h4 (fun k hk h => by omega)).trans hu' (fun k hk h => by simp at h; omega)⟩)
    refine own_mono (own_upd h2 hu' (fun k hk h => ?_)) (by omega)
    simp at h
    subst h
    exact hOD (.inr hk.symm)
  case g5 =>
    rintro l O pre x V hI ⟨suf, hsuf⟩ hO hl hll
    have hpl : pre.length ≤ 1000000000 := by have := congrArg List.length hsuf; simp at this; omega
    have HS := Sec.mk hsuf
    clear hsuf
    gi_wp2
    refine ⟨Upd.refl _ _, fun V4 hu4 hs4 ⟨v, h1, h2, he, h4⟩ => ?_⟩
    subst he
    have hc := cell_of_one h1
    have hf := free_of_one h1
    have hlt := lt_of_block h1
    have hW4 := h4.size
    obtain ⟨a, c, rfl, _⟩ := h2.read
    have HS4 := Sec.mk hs4
    clear hs4
    have hne : ∀ k, some k = (Value.slice a pre.length c).ownBlock → w.heap.size < k := fun k h => by have := own_new h2 k h.symm; omega
    gi_wp2_with (gi_at_builtin; refine app_int_in (W := V4) W.heap.size rfl (.tmp 8) (.tmp 10) rfl (.slice a pre.length c) pre x rfl rfl h2 hW4 (by omega) (fun v1 V5 ho5 hu5 hn5 => ?_); obtain ⟨a1, c1, rfl, _⟩ := ho5.read; have hb5 := (hu5.block _ hlt (fun h => by have := hne _ h; omega)).trans h1; have hc5 := cell_of_one hb5; have hf5 := free_of_one hb5)
    have hlen1 : (pre ++ [x]).length = pre.length + 1 := by simp
    replace ho5 : V5.ownsRow W.heap.size 3 1 (.slice a1 (pre.length + 1) c1) (pre.length + 1) ((pre ++ [x]).map (Value.int .i64)) := by unfold OwnI at ho5; rw [hlen1] at ho5; exact ho5
    have hn1 : ∀ k, some k = (Value.slice a1 (pre.length + 1) c1).ownBlock → W.heap.size ≤ k ∧ k < V5.heap.size ∧ (some k = (Value.slice a pre.length c).ownBlock ∨ V4.heap.size ≤ k) :=
      fun k hk => ⟨(ho5.lt k hk.symm).1, (ho5.lt k hk.symm).2, hn5 k (by rw [hlen1]; exact hk)⟩
    refine ⟨fun k => k = w.heap.size ∨ some k = (Value.slice a1 (pre.length + 1) c1).ownBlock, ⟨_, one_setCell hb5, by unfold OwnI; rw [hlen1]; exact ownsRow_setCell_other ho5 (fun h => by have := (hn1 _ h.symm).1; simp at this; omega) _, rfl, ?_⟩, ?_, ?_, ?_⟩
    · exact (h4.trans hu5 (fun k hk h => by have := own_new h2 k h.symm; omega)).setCell (.inl rfl) _
    · exact (hu5.mono (fun k _ h => .inr h)).setCell (.inl (.inl rfl)) _
    · rintro k (rfl | h)
      · exact .inl (.inl rfl)
      · exact (hn1 _ h).2.2.imp .inr (fun h => h)
    · rintro k (rfl | h)
      · have := hu5.size; simp; omega
      · have := (hn1 _ h).2.1; simp; omega

theorem collect_calls {gf : FuncId} {lb : Array Value} {xs : List Int} {keep : Nat → Prop} (w : World) (eg : ∀ args w, (callFunc gf args).run Tryd.prog w = .ok (.enter gf args) w) (hk : ∀ k, keep k → k < w.heap.size)
    (hseq : SeqO Tryd.prog gf lb (fun x => #[.int .i64 x]) xs keep w) (hx : xs.length ≤ 1000000000) :
    Calls Tryd.prog 16 #[.func (.func gf) #[] lb] w fun e w' => ∃ v, e = .returned v ∧ OwnI w' w.heap.size v xs ∧ Upd No w w' := by
  go_enter Tryd.func16, Tryd.ntmps16
  go_wp2_with (go_at_call 26; refine (appendSeq_calls w eg hk hseq hx).mono ?_; rintro e w' ⟨v, rfl, ho, hu⟩)
  go_ret
  exact ⟨_, rfl, ho, hu⟩

/-- A tree in which each one's walk ends, and has at most that many steps. -/
def TreeOk (T : List (Int × Int)) : Prop := ∀ id, id = 0 ∨ hasT T id = true → Dep T (T.length + 1) id ∧ (dfs T (T.length + 1) id).length ≤ T.length
def walkT (T : List (Int × Int)) (id : Int) : List Int := dfs T (T.length + 1) id
theorem eg_walk1 : ∀ args w, (callFunc 27 args).run Tryd.prog w = .ok (.enter 27 args) w := enters_of Tryd.func27 (by kernel_rfl) rfl

theorem walkAt_made (w : World) (bt bm : Nat) (T : List (Int × Int)) (id : Int) (ht : TreeAt w bt bm T) :
    WalkAt ((w.alloc (.cells #[.pointer (some ⟨bt, 0, none⟩)] 24)).alloc (.cells #[.int .i64 id] 3)) w.heap.size (w.heap.size + 1) bt bm T id := by
  refine ⟨ht.upd (((Upd.refl No w).alloc _).alloc _) (fun e => e) (fun e => e), by simp; omega, by simp, ?_, ?_⟩
  · rw [World.cell?_alloc_past _ _ _ (by simp), World.cell?_alloc_at _ _ _ _ rfl]; rfl
  · rw [World.cell?_alloc_at _ _ _ _ (by simp)]; rfl

theorem Walk_calls (w : World) (bt bm : Nat) (T : List (Int × Int)) (ht : TreeAt w bt bm T) (hok : TreeOk T) :
    Calls Tryd.prog 6 #[.pointer (some ⟨bt, 0, none⟩)] w fun e w' => ∃ v, e = .returned v ∧ OwnI w' w.heap.size v (walkT T 0) ∧ Upd No w w' := by
  have hlt := ht.lt
  have hlm := ht.map.lt
  go_enter Tryd.func6, Tryd.ntmps6
  go_wp2_with (first | (go_at_call 17; refine (walk_calls _ _ _).mono ?_; rintro e w' ⟨rfl, rfl⟩) | (go_at_call 16; refine (collect_calls _ eg_walk1 ?_ (walk_seq T (T.length + 1) 0 _ _ _ _ _ (hok 0 (.inl rfl)).1 (walkAt_made w bt bm T 0 ht)) (Nat.le_trans (hok 0 (.inl rfl)).2 ht.small)).mono ?_; (rintro k (rfl | rfl | rfl | rfl) <;> simp <;> omega); rintro e w' ⟨v, rfl, ho, hu⟩))
  go_ret
  exact ⟨_, rfl, own_mono ho (by simp; omega), (((Upd.refl No w).alloc _).alloc _).step hu⟩

theorem index_own (w : World) (base : Nat) (v : Value) (xs : List Int) (x : Int) (h : OwnI w base v xs) :
    Calls Tryd.prog 30 #[v, .int .i64 x] w fun e w' => e = .returned (.int .i64 (Lib.idxOf xs x)) ∧ w' = w := by
  have hl := h.len
  rcases h.cases with ⟨rfl, a, c, rfl⟩ | ⟨g, c, rfl, _, _, hc⟩
  · exact Tryd.slices_Index_int_empty a c x w
  · have := Tryd.slices_Index_int g 0 xs.length c xs x w (Nat.le_refl _) hl (fun j hj => by rw [Nat.zero_add, hc j hj]; simp [List.getD_eq_getElem?_getD])
    rwa [List.take_length] at this

theorem two_cells {w : World} {b : Nat} {u v : Value} {t : TypeId} (h : w.heap[b]? = some (.cells #[u, v] t (0, 0))) :
    w.cell? ⟨b, 0, none⟩ = some u ∧ w.cell? ⟨b, 1, none⟩ = some v ∧ w.frozen? ⟨b, 0, none⟩ = false ∧ w.frozen? ⟨b, 1, none⟩ = false := by simp [World.cell?, World.frozen?, h]
theorem cells_set {w : World} {b : Nat} {cs : Array Value} {t : TypeId} {fr : Nat × Nat} (h : w.heap[b]? = some (.cells cs t fr)) (i : Nat) (x : Value) :
    (w.setCell ⟨b, i, none⟩ x).heap[b]? = some (.cells (cs.setIfInBounds i x) t fr) := by
  have hlt := lt_of_block h
  have h' : w.heap[b] = .cells cs t fr := by simpa [Array.getElem?_eq_getElem hlt] using h
  show (w.heap.modify b _)[b]? = _
  rw [Array.getElem?_eq_getElem (by simpa using hlt), Array.getElem_modify_self, h']
  rfl
theorem two_set {w : World} {b : Nat} {u v x y : Value} {t : TypeId} (h : w.heap[b]? = some (.cells #[u, v] t (0, 0))) :
    ((w.setCell ⟨b, 0, none⟩ x).setCell ⟨b, 1, none⟩ y).heap[b]? = some (.cells #[x, y] t (0, 0)) := by
  rw [cells_set (cells_set h 0 x) 1 y]; rfl
/-- The count's box between two rounds. -/
def CountI (bx : Nat) (w : World) (O : Nat → Prop) (ys : List Int) (V : World) : Prop :=
  V.heap[bx]? = some (.cells #[.int .i64 ((ys.length + 1 : Nat) : Int)] 3 (0, 0)) ∧ (O = fun k => k = bx) ∧ Upd (fun k => k = bx) w V

def ivalT (T : List (Int × Int)) (id : Int) : Int × Int := if hasT T id = true then (Lib.idxOf (walkT T 0) id, ((walkT T id).length + 1 : Nat)) else (0, 0)

set_option maxHeartbeats 1000000 in
theorem interval_calls (w : World) (bt bm : Nat) (T : List (Int × Int)) (id : Int) (ht : TreeAt w bt bm T) (hok : TreeOk T) :
    Calls Tryd.prog 19 #[.pointer (some ⟨bt, 0, none⟩), .int .i64 id] w fun e w' =>
      e = .returned (.tuple #[.agg #[.int .i64 (ivalT T id).1, .int .i64 (ivalT T id).2], .bool (hasT T id)]) ∧ Upd No w w' := by
  have hlt := ht.lt
  have hlm := ht.map.lt
  refine calls_marks Tryd.func19 rfl (wpIn_wide.2 ?_)
  simp only [Tryd.ntmps19, List.size_toArray, List.length_cons, List.length_nil, Nat.reduceAdd, Nat.reduceSub, Array.replicate_succ, Array.replicate_zero, List.push_toArray, List.append_toArray, List.nil_append, List.cons_append]
  have hu0 : Upd No w (w.alloc (.cells #[.int .i64 0, .int .i64 0] 50)) := (Upd.refl No w).alloc _
  have ht0 := ht.upd hu0 (fun e => e) (fun e => e)
  cases hh : hasT T id with
  | false =>
    have hv : ivalT T id = (0, 0) := by simp [ivalT, hh]
    rw [hv]
    have HH := Sec.mk hh
    go_wp2_with (go_at_call 20; refine (has_calls _ _ _ _ _ ht0).mono ?_; rintro e w' ⟨rfl, rfl⟩)
    refine leaves_marks [] _ (by simp) (by simp) (fun w' hu' hs' => ?_)
    have c0 : w'.cell? ⟨w.heap.size, 0, none⟩ = some (.int .i64 0) := by rw [hu'.cell (p := ⟨w.heap.size, 0, none⟩) (by simp) (by simp), World.cell?_alloc_at _ _ _ _ rfl]; rfl
    have c1 : w'.cell? ⟨w.heap.size, 1, none⟩ = some (.int .i64 0) := by rw [hu'.cell (p := ⟨w.heap.size, 1, none⟩) (by simp) (by simp), World.cell?_alloc_at _ _ _ _ rfl]; rfl
    exact ⟨.tuple #[.agg #[.int .i64 0, .int .i64 0], .bool false], by simp [results, Tryd.results19, go_sem, c0, c1], rfl, hu0.step (hu'.mono (fun _ _ e => by simp at e))⟩
  | true =>
    have hv : ivalT T id = (Lib.idxOf (walkT T 0) id, (((walkT T id).length + 1 : Nat) : Int)) := by simp [ivalT, hh]
    rw [hv]
    have HH := Sec.mk hh
    go_wp2_with (first | (go_at_call 20; refine (has_calls _ _ _ _ _ ht0).mono ?_; rintro e w' ⟨rfl, rfl⟩) | (go_at_call 17; refine (walk_calls _ _ _).mono ?_; rintro e w' ⟨rfl, rfl⟩))
    have ht2 := ht.upd (((Upd.refl No w).alloc (.cells #[.int .i64 0, .int .i64 0] 50)).alloc (.cells #[.int .i64 1] 3)) (fun e => e) (fun e => e)
    have hwa := walkAt_made _ bt bm T id ht2
    have hu4 : Upd No w ((((w.alloc (.cells #[.int .i64 0, .int .i64 0] 50)).alloc (.cells #[.int .i64 1] 3)).alloc (.cells #[.pointer (some ⟨bt, 0, none⟩)] 24)).alloc (.cells #[.int .i64 id] 3)) := ((((Upd.refl No w).alloc _).alloc _).alloc _).alloc _
    have hbox : ((((w.alloc (.cells #[.int .i64 0, .int .i64 0] 50)).alloc (.cells #[.int .i64 1] 3)).alloc (.cells #[.pointer (some ⟨bt, 0, none⟩)] 24)).alloc (.cells #[.int .i64 id] 3)).heap[w.heap.size + 1]? = some (.cells #[.int .i64 1] 3 (0, 0)) := by
      rw [Below.heap_alloc _ _ _ (by simp), Below.heap_alloc _ _ _ (by simp)]
      have := heap_alloc_new (w.alloc (.cells #[.int .i64 0, .int .i64 0] 50)) (.cells #[.int .i64 1] 3)
      rwa [World.size_alloc] at this
    have hres : ((((w.alloc (.cells #[.int .i64 0, .int .i64 0] 50)).alloc (.cells #[.int .i64 1] 3)).alloc (.cells #[.pointer (some ⟨bt, 0, none⟩)] 24)).alloc (.cells #[.int .i64 id] 3)).heap[w.heap.size]? = some (.cells #[.int .i64 0, .int .i64 0] 50 (0, 0)) := by
      rw [Below.heap_alloc _ _ _ (by simp; omega), Below.heap_alloc _ _ _ (by simp; omega), Below.heap_alloc _ _ _ (by simp)]
      exact heap_alloc_new w _
    simp only [World.size_alloc] at hwa
    generalize ((((w.alloc (.cells #[.int .i64 0, .int .i64 0] 50)).alloc (.cells #[.int .i64 1] 3)).alloc (.cells #[.pointer (some ⟨bt, 0, none⟩)] 24)).alloc (.cells #[.int .i64 id] 3)) = W at hwa hu4 hbox hres ⊢
    have hl2 := hwa.l2
    have htl := hwa.tree.lt
    have htm := hwa.tree.map.lt
    have hlen := (hok id (.inr hh)).2
    have hsm := ht.small
    have wf := wide_fn
    have wd := wide_depth
    refine wpIn_wide.1 (range_law (n := 0) rfl eg_walk1 (walk_seq T (T.length + 1) id W _ _ bt bm (hok id (.inr hh)).1 hwa) (fun _ => rfl) ?g1 (CountI (w.heap.size + 1) W) (fun _ _ _ _ => False)
      ?g3 ?g4 (fun k => k = w.heap.size + 1) ?g2 ?g2b ?g0 ?g5 ?g6 ?g7)
    case g1 => rintro k (rfl | rfl | rfl | rfl) <;> omega
    case g2 => intro k h; omega
    case g2b => rintro k (rfl | rfl | rfl | rfl) h <;> omega
    case g0 => exact ⟨hbox, rfl, Upd.refl _ _⟩
    case g3 =>
      rintro O ys V V' ⟨h1, rfl, h3⟩ huV
      exact ⟨(huV.block _ (Array.getElem?_eq_some_iff.1 h1).1 (fun h => h.2 rfl)).trans h1, rfl, h3.trans huV (fun k hk h => by omega)⟩
    case g4 => exact fun _ _ _ _ _ h => h.elim
    case g7 => exact fun _ _ _ _ _ _ _ _ h => h.elim
    case g5 =>
      rintro l O pre x V hI ⟨suf, hsuf⟩ hO hl hll
      have hpl : pre.length ≤ 1000000000 := by have := congrArg List.length hsuf; simp at this; omega
      clear hsuf
      gi_wp2
      refine ⟨Upd.refl _ _, fun V4 hu4 hs4 ⟨h1, he, h4⟩ => ?_⟩
      subst he
      have hc := cell_of_one h1
      have hf := free_of_one h1
      clear hs4
      gi_wp2
      refine ⟨fun k => k = w.heap.size + 1, ⟨?_, rfl, h4.setCell (.inl rfl) _⟩, (Upd.refl (fun k => k = w.heap.size + 1) V4).setCell (.inl rfl) _, fun k h => .inl h, fun k h => by subst h; rw [World.size_setCell]; exact lt_of_block h1⟩
      rw [one_setCell h1]
      simp
    case g6 =>
      rintro D O V hD hOD ⟨h1, rfl, h3⟩ hd
      have hDl := lt_of_block hd
      have hc := cell_of_one h1
      have hf := free_of_one h1
      have hresV := (h3.block w.heap.size (by omega) (by omega)).trans hres
      have htV := hwa.tree.upd h3 (by omega) (by omega)
      have hlV : w.heap.size + 1 < V.heap.size := lt_of_block h1
      have HD := Sec.mk hd
      have HR := Sec.mk hresV
      have HW := Sec.mk (htV.upd (Upd.refl No V).drew (fun e => e) (fun e => e))
      go_wp2
      go_region_held3 (fun w' => w'.cell? ⟨w.heap.size + 1, 0, none⟩ = some (.int .i64 (((dfs T (T.length + 1) id).length + 1 : Nat) : Int))) (first | exact hc1 | exact hc | go_keep)
        (first | (go_at_call 6; refine (Walk_calls _ _ _ _ HW.out hok).mono ?_; rintro e V1 ⟨v, rfl, ho, hu1⟩; have hc1 := (hu1.cell (p := ⟨w.heap.size + 1, 0, none⟩) hlV (fun e => e)).trans hc; have hr1 := (hu1.block w.heap.size (lt_of_block HR.out) (fun e => e)).trans HR.out; obtain ⟨q0, q1, f0, f1⟩ := two_cells hr1; have HR1 := Sec.mk hr1; clear hr1) | (go_at_call 30; refine (index_own _ _ _ _ _ ho).mono ?_; rintro e V2 ⟨rfl, rfl⟩))
      go_wp2
      refine leaves_marks [D] _ (by simp) ?_ (fun w' hu' hs' => ?_)
      · intro E hE
        simp at hE
        subst hE
        rw [Below.heap_setCell _ _ _ _ (by simp; omega), Below.heap_setCell _ _ _ _ (by simp; omega)]
        exact (hu1.block E (lt_of_block HD.out) (fun e => e)).trans HD.out
      · have hDw : ¬ w.heap.size = D := by omega
        have hr2 := (hu'.block w.heap.size (by rw [World.size_setCell, World.size_setCell]; exact lt_of_block HR1.out) (by simpa using hDw)).trans (two_set (x := .int .i64 (Lib.idxOf (walkT T 0) id)) (y := .int .i64 ((dfs T (T.length + 1) id).length + 1)) HR1.out)
        obtain ⟨c0, c1, _, _⟩ := two_cells hr2
        refine ⟨.tuple #[.agg #[.int .i64 (Lib.idxOf (walkT T 0) id), .int .i64 ((dfs T (T.length + 1) id).length + 1)], .bool true], by simp [results, Tryd.results19, go_sem, c0, c1], by simp [walkT], ?_⟩
        have hWV : Upd No w V := hu4.trans h3 (fun k hk h => by omega)
        have h5 : Upd No w V2 := (hWV.drew).step hu1
        have h6 := (h5.setCell (p := ⟨w.heap.size, 0, none⟩) (.inr (Nat.le_refl _)) (.int .i64 (Lib.idxOf (walkT T 0) id))).setCell (p := ⟨w.heap.size, 1, none⟩) (.inr (Nat.le_refl _)) (.int .i64 ((dfs T (T.length + 1) id).length + 1))
        exact h6.trans hu' (fun k hk h => by simp at h; omega)
end Go.Proofs.YtkfnaahkfogcoaaDoor
