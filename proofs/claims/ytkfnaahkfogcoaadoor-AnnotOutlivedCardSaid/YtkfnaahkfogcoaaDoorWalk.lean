/- The walk below one: a function that hands it on, and calls itself. -/
import Derived.Test.YtkfnaahkfogcoaaDoorTree
import Derived.Test.YtkfnaahkfogcoaaDoorRange
import Derived.RangeFuncNested
import Derived.RangeFuncBound
import Derived.Shelf.Abstract
import Derived.Shelf.RegionOpen
import Derived.OwnWalkIn
import Derived.TacticsInMore
import Derived.LoopNIn
import Derived.LoopIn
namespace Go.Proofs.YtkfnaahkfogcoaaDoor
open Go.RowKit Go.Shelf
attribute [local go_sem] Oper.semAt_some

theorem kids_len (T : List (Int × Int)) (id : Int) : (kidsOf T id).length ≤ T.length := by
  have := List.length_filter_le (fun p => decide (p.2 = id)) T
  simp [kidsOf, sortI]
  exact this
/-- So many of the walk's steps, from one on. -/
def dfs (T : List (Int × Int)) : Nat → Int → List Int
  | 0, _ => []
  | n + 1, id => (kidsOf T id).flatMap fun k => k :: dfs T n k
/-- Fewer than n stand below each other, below this one. -/
def Dep (T : List (Int × Int)) : Nat → Int → Prop
  | 0, _ => False
  | n + 1, id => ∀ k ∈ kidsOf T id, Dep T n k

theorem walk_calls (w : World) (bt : Nat) (id : Int) :
    Calls Tryd.prog 17 #[.pointer (some ⟨bt, 0, none⟩), .int .i64 id] w fun e w' =>
      e = .returned (.func (.func 27) #[] #[.pointer (some ⟨w.heap.size, 0, none⟩), .pointer (some ⟨w.heap.size + 1, 0, none⟩)]) ∧
      w' = (w.alloc (.cells #[.pointer (some ⟨bt, 0, none⟩)] 24)).alloc (.cells #[.int .i64 id] 3) := by
  go_enter Tryd.func17, Tryd.ntmps17
  go_wp2
  go_ret
  exact ⟨rfl, rfl⟩

/-- The two boxes that the function has captured, and the tree. -/
structure WalkAt (w : World) (b1 b2 bt bm : Nat) (T : List (Int × Int)) (id : Int) : Prop where
  tree : TreeAt w bt bm T
  l1 : b1 < w.heap.size
  l2 : b2 < w.heap.size
  c1 : w.cell? ⟨b1, 0, none⟩ = some (.pointer (some ⟨bt, 0, none⟩))
  c2 : w.cell? ⟨b2, 0, none⟩ = some (.int .i64 id)
theorem WalkAt.upd {S : Nat → Prop} {w w' : World} {b1 b2 bt bm : Nat} {T : List (Int × Int)} {id : Int} (h : WalkAt w b1 b2 bt bm T id) (hu : Upd S w w') (h1 : ¬ S b1) (h2 : ¬ S b2) (h3 : ¬ S bt) (h4 : ¬ S bm) : WalkAt w' b1 b2 bt bm T id :=
  ⟨h.tree.upd hu h3 h4, Nat.lt_of_lt_of_le h.l1 hu.size, Nat.lt_of_lt_of_le h.l2 hu.size, (hu.cell (p := ⟨b1, 0, none⟩) h.l1 h1).trans h.c1, (hu.cell (p := ⟨b2, 0, none⟩) h.l2 h2).trans h.c2⟩

def keepW (b1 b2 bt bm : Nat) : Nat → Prop := fun k => k = b1 ∨ k = b2 ∨ k = bt ∨ k = bm

/-- The blocks that the iterator itself reads between two rounds. -/
def mineW (b1 b2 b3 bt bm : Nat) (a : Option Addr) (Ds : List Nat) : Nat → Prop := fun k => k = b1 ∨ k = b2 ∨ k = b3 ∨ k = bt ∨ k = bm ∨ (∃ o, a = some ⟨k, o, none⟩) ∨ k ∈ Ds
theorem mineW_cons {b1 b2 b3 bt bm : Nat} {a : Option Addr} {D : Nat} {Ds : List Nat} {k : Nat} (h : mineW b1 b2 b3 bt bm a (D :: Ds) k) : k = D ∨ mineW b1 b2 b3 bt bm a Ds k := by
  rcases h with h | h | h | h | h | h | h
  · exact .inr (.inl h)
  · exact .inr (.inr (.inl h))
  · exact .inr (.inr (.inr (.inl h)))
  · exact .inr (.inr (.inr (.inr (.inl h))))
  · exact .inr (.inr (.inr (.inr (.inr (.inl h)))))
  · exact .inr (.inr (.inr (.inr (.inr (.inr (.inl h))))))
  · rcases List.mem_cons.1 h with h | h
    · exact .inl h
    · exact .inr (.inr (.inr (.inr (.inr (.inr (.inr h))))))
structure WInv (l b1 b2 b3 bt bm : Nat) (T : List (Int × Int)) (id : Int) (xs : List Int) (B : Nat) (a : Option Addr) (Ds : List Nat) (O : Nat → Prop) (V : World) : Prop where
  walk : WalkAt V b1 b2 bt bm T id
  c3 : V.cell? ⟨b3, 0, none⟩ = some (.func (.yield l) #[] #[])
  l3 : b3 < V.heap.size
  kids : 0 < xs.length → ∃ g, a = some ⟨g, 0, none⟩ ∧ ∀ i, i < xs.length → V.cell? ⟨g, i, none⟩ = some (.int .i64 (xs[i]?.getD 0))
  la : ∀ k o, a = some ⟨k, o, none⟩ → k < V.heap.size
  nd : Ds.Nodup
  ds : ∀ D ∈ Ds, B ≤ D ∧ V.heap[D]? = some (.deferred (some []))
  own : ∀ k, O k → k < V.heap.size ∧ ¬ mineW b1 b2 b3 bt bm a Ds k
  nl : ¬ mineW b1 b2 b3 bt bm a Ds l
theorem WInv.lt {l b1 b2 b3 bt bm : Nat} {T : List (Int × Int)} {id : Int} {xs : List Int} {B : Nat} {a : Option Addr} {Ds : List Nat} {O : Nat → Prop} {V : World} (h : WInv l b1 b2 b3 bt bm T id xs B a Ds O V) :
    ∀ k, mineW b1 b2 b3 bt bm a Ds k → k < V.heap.size := by
  rintro k (rfl | rfl | rfl | rfl | rfl | ⟨o, ho⟩ | hD)
  · exact h.walk.l1
  · exact h.walk.l2
  · exact h.l3
  · exact h.walk.tree.lt
  · exact h.walk.tree.map.lt
  · exact h.la k o ho
  · exact (Array.getElem?_eq_some_iff.1 (h.ds k hD).2).1
theorem WInv.upd {l b1 b2 b3 bt bm : Nat} {T : List (Int × Int)} {id : Int} {xs : List Int} {B : Nat} {a : Option Addr} {Ds : List Nat} {O O' S : Nat → Prop} {V V' : World} (h : WInv l b1 b2 b3 bt bm T id xs B a Ds O V)
    (hu : Upd S V V') (hS : ∀ k, mineW b1 b2 b3 bt bm a Ds k → ¬ S k) (hO : ∀ k, O' k → (O k ∨ V.heap.size ≤ k) ∧ k < V'.heap.size) : WInv l b1 b2 b3 bt bm T id xs B a Ds O' V' := by
  have hl := h.lt
  refine ⟨h.walk.upd hu (hS _ (by simp [mineW])) (hS _ (by simp [mineW])) (hS _ (by simp [mineW])) (hS _ (by simp [mineW])), (hu.cell (p := ⟨b3, 0, none⟩) h.l3 (hS _ (by simp [mineW]))).trans h.c3, Nat.lt_of_lt_of_le h.l3 hu.size,
    fun hx => ?_, fun k o e => Nat.lt_of_lt_of_le (h.la k o e) hu.size, h.nd, fun D hD => ⟨(h.ds D hD).1, (hu.block D (hl D (by simp [mineW, hD])) (hS _ (by simp [mineW, hD]))).trans (h.ds D hD).2⟩, fun k hk => ⟨(hO k hk).2, fun hm => ?_⟩, h.nl⟩
  · obtain ⟨g, rfl, hc⟩ := h.kids hx
    exact ⟨g, rfl, fun i hi => (hu.cell (p := ⟨g, i, none⟩) (h.la g 0 rfl) (hS _ (by simp [mineW]))).trans (hc i hi)⟩
  · rcases (hO k hk).1 with h1 | h1
    · exact (h.own k h1).2 hm
    · have := hl k hm; omega

set_option maxHeartbeats 1000000 in
theorem walk_seq (T : List (Int × Int)) : ∀ (d : Nat) (id : Int) (w : World) (b1 b2 bt bm : Nat), Dep T d id → WalkAt w b1 b2 bt bm T id →
    SeqO Tryd.prog 27 #[.pointer (some ⟨b1, 0, none⟩), .pointer (some ⟨b2, 0, none⟩)] (fun x => #[.int .i64 x]) (dfs T d id) (keepW b1 b2 bt bm) w := by
  intro d
  induction d with
  | zero => exact fun id w b1 b2 bt bm h => h.elim
  | succ d ih =>
    intro id w b1 b2 bt bm hd hw n l J Jx W O hu hJ hJx hY hO hO1 hlW hlK hlO h0
    have hW : WalkAt W b1 b2 bt bm T id := hw.upd hu (by simp [keepW]) (by simp [keepW]) (by simp [keepW]) (by simp [keepW])
    have hc1 := hW.c1
    have hc2 := hW.c2
    have hl1 := hW.l1
    have hl2 := hW.l2
    refine callsIn_of_wp_marks Tryd.func27 rfl trivial ?_ rfl
    simp only [Tryd.ntmps27, List.size_toArray, List.length_cons, List.length_nil, Nat.reduceAdd, Nat.reduceSub, Array.replicate_succ, Array.replicate_zero, List.push_toArray, List.append_toArray, List.nil_append, List.cons_append]
    have hk0 := Upd.alloc (Upd.refl No W) (.cells #[.func (.yield l) #[] #[]] 53)
    have hWW := hW.upd hk0 (fun e => e) (fun e => e) (fun e => e) (fun e => e)
    have hlen : (kidsOf T id).length ≤ 1000000000 := Nat.le_trans (kids_len T id) hW.tree.small
    have wf := wide_fn
    have wd := wide_depth
    gi_wp2_with (gi_at_call 21; refine (callsIn_wide.2 (kids_calls _ _ _ _ _ hWW.tree)).mono ?_; rintro e w1 ⟨v, rfl, ho, hu1⟩; obtain ⟨a, c, rfl, hrd⟩ := ho.read)
    have huA : Upd No W w1 := hk0.step hu1
    have hinv : WInv l b1 b2 W.heap.size bt bm T id (kidsOf T id) W.heap.size a [] O w1 := by
      have hsz := huA.size
      have hlt3 : W.heap.size < w1.heap.size := by have := hu1.size; simp at this; omega
      have hla : ∀ k o, a = some ⟨k, o, none⟩ → W.heap.size < k ∧ k < w1.heap.size := by
        rintro k o rfl
        have := ho.lt k rfl
        simp at this
        omega
      refine ⟨hW.upd huA (fun e => e) (fun e => e) (fun e => e) (fun e => e), ?_, hlt3, fun hx => ?_, fun k o e => (hla k o e).2, List.nodup_nil, by simp, fun k hk => ⟨Nat.lt_of_lt_of_le (hO k hk) hsz, ?_⟩, ?_⟩
      · rw [hu1.cell (p := ⟨W.heap.size, 0, none⟩) (by simp) (fun e => e), World.cell?_alloc_at _ _ _ _ rfl]; rfl
      · obtain ⟨g, h1, _, _, h2⟩ := hrd.out hx
        exact ⟨g, h1, h2⟩
      · have := hO k hk
        rintro (rfl | rfl | rfl | rfl | rfl | ⟨o, e⟩ | h)
        · exact hO1 _ (by simp [keepW]) hk
        · exact hO1 _ (by simp [keepW]) hk
        · omega
        · exact hO1 _ (by simp [keepW]) hk
        · exact hO1 _ (by simp [keepW]) hk
        · have := (hla k o e).1; omega
        · simp at h
      · rintro (rfl | rfl | e | rfl | rfl | ⟨o, e⟩ | h)
        · exact hlK (by simp [keepW])
        · exact hlK (by simp [keepW])
        · omega
        · exact hlK (by simp [keepW])
        · exact hlK (by simp [keepW])
        · have := (hla _ o e).1; omega
        · simp at h
    have hj1 : J O [] w1 := hJ _ _ _ _ h0 (huA.mono (fun _ _ e => e.elim))
    have hB : ∀ k, keepW b1 b2 bt bm k → k < W.heap.size := by
      rintro k (rfl | rfl | rfl | rfl)
      exact hl1; exact hl2; exact hW.tree.lt; exact hW.tree.map.lt
    clear hWW hk0 ho hrd hu1 huA h0 hc1 hc2 hO hW hw hu
    refine wpIn_loop (fun a' V => ∃ (k : Nat) (Ds : List Nat) (O : Nat → Prop) (u5 u6 u12 u13 u14 u15 u16 u17 u18 u19 u20 u21 u22 u23 u24 u25 u26 u27 : Value), a' = { tmps := #[.func (.yield l) #[] #[], .pointer (some ⟨b1, 0, none⟩), .pointer (some ⟨b2, 0, none⟩), .pointer (some ⟨W.heap.size, 0, none⟩), undef, u5, u6, .pointer (some ⟨bt, 0, none⟩), .int .i64 id, .slice a (kidsOf T id).length c, .int .i64 ((kidsOf T id).length : Nat), .int .i64 (k : Nat), u12, u13, u14, u15, u16, u17, u18, u19, u20, u21, u22, u23, u24, u25, u26, u27], defers := Ds.map mark } ∧ k ≤ (kidsOf T id).length ∧
      J O (((kidsOf T id).take k).flatMap fun k => k :: dfs T d k) V ∧ WInv l b1 b2 W.heap.size bt bm T id (kidsOf T id) W.heap.size a Ds O V) (fun a' _ => (kidsOf T id).length - (intOf (a'.tmps.getD 11 undef)).toNat) ?_ ?_
    · exact ⟨0, [], O, _, _, _, _, _, _, _, _, _, _, _, _, _, _, _, _, _, _, rfl, by omega, by simpa using hj1, hinv⟩
    · clear hinv hj1 hlO hO1 O
      rintro a' V ⟨k, Ds, O, u5, u6, u12, u13, u14, u15, u16, u17, u18, u19, u20, u21, u22, u23, u24, u25, u26, u27, rfl, hk, hj, hi⟩
      have hc3 := hi.c3
      have hl3 := hi.l3
      by_cases hlt : k < (kidsOf T id).length
      · obtain ⟨g, rfl, hcell⟩ := hi.kids (by omega)
        have hce := hcell k hlt
        obtain ⟨x, hx⟩ : ∃ x, (kidsOf T id)[k]? = some x := ⟨_, List.getElem?_eq_getElem hlt⟩
        rw [hx] at hce
        simp only [Option.getD_some] at hce
        have hsplit : kidsOf T id = (kidsOf T id).take k ++ x :: (kidsOf T id).drop (k + 1) := by
          have h1 := (List.take_append_drop k (kidsOf T id)).symm
          rw [List.drop_eq_getElem_cons hlt] at h1
          rw [List.getElem?_eq_getElem hlt] at hx
          simp only [Option.some.injEq] at hx
          rw [hx] at h1
          exact h1
        have hdfs : dfs T (d + 1) id = (((kidsOf T id).take k).flatMap fun k => k :: dfs T d k) ++ x :: (dfs T d x ++ ((kidsOf T id).drop (k + 1)).flatMap fun k => k :: dfs T d k) := by
          show (kidsOf T id).flatMap _ = _
          conv => lhs; rw [hsplit]
          simp [List.flatMap_append, List.flatMap_cons]
        have hdx : Dep T d x := hd x (List.mem_of_getElem? hx)
        obtain ⟨fn, tmps, assign, body, hy, hR⟩ := hY O _ x V hj ⟨_, hdfs⟩ (fun k hk => (hi.own k hk).1)
        have HS := Sec.mk hsplit
        have HD := Sec.mk hdfs
        have HI := Sec.mk hi
        have HJ := Sec.mk hj
        have HX := Sec.mk hx
        have HY := Sec.mk hY
        clear hsplit hdfs hi hj hx hY hd hcell
        have hc1 := HI.out.walk.c1
        have hc2 := HI.out.walk.c2
        gi_wp2
        refine (roundIn_any hR).mono ?_
        rintro e V2 (⟨rfl, O2, hj2, hu2, ho2, ho3⟩ | ⟨rfl, O2, hj2, hu2, ho2⟩)
        · have hI2 := HI.out.upd hu2 (fun k hm hO => (HI.out.own k hO).2 hm) (fun k hk => ⟨ho2 k hk, ho3 k hk⟩)
          have HJ2 := Sec.mk hj2
          clear hR hy hc1 hc2 hc3 hl3 hce hj2
          have hc1 := hI2.walk.c1
          have hc2 := hI2.walk.c2
          have hc3 := hI2.c3
          have hl3 := hI2.l3
          have hw1 := hI2.walk.l1
          gi_wp2_with (gi_at_call 17; refine (callsIn_wide.2 (walk_calls _ _ _)).mono ?_; rintro e w' ⟨rfl, rfl⟩)
          have hD2 := fun D hD => (hI2.ds D hD).1
          generalize hV3 : (V2.alloc (.cells #[.pointer (some ⟨bt, 0, none⟩)] 24)).alloc (.cells #[.int .i64 x] 3) = V3
          have hu3 : Upd No V2 V3 := by rw [← hV3]; exact ((Upd.refl No V2).alloc _).alloc _
          have hs3 : V3.heap.size = V2.heap.size + 2 := by rw [← hV3]; simp
          have hI3 := hI2.upd (O' := O2) hu3 (fun _ _ e => e) (fun k hk => ⟨.inl hk, by have := (hI2.own k hk).1; omega⟩)
          have hj3 : J O2 _ V3 := hJ _ _ _ _ HJ2.out (hu3.mono (fun _ _ e => e.elim))
          have hw3 : WalkAt V3 V2.heap.size (V2.heap.size + 1) bt bm T x := by
            refine ⟨hI3.walk.tree, by omega, by omega, ?_, ?_⟩
            · rw [← hV3, World.cell?_alloc_past _ _ _ (by simp), World.cell?_alloc_at _ _ _ _ rfl]; rfl
            · rw [← hV3, World.cell?_alloc_at _ _ _ _ (by simp)]; rfl
          have hbt := hI2.walk.tree.lt
          have hbm := hI2.walk.tree.map.lt
          clear hV3 HJ2 hu3 hc1 hc2 hc3 hl3 hw1
          gi_wp2
          refine range_law rfl (enters_of Tryd.func27 (by kernel_rfl) rfl) (ih x V3 V2.heap.size (V2.heap.size + 1) bt bm hdx hw3) (fun _ => rfl) ?g1
            (fun O ys V => J O ((((kidsOf T id).take k).flatMap fun k => k :: dfs T d k) ++ x :: ys) V ∧ WInv l b1 b2 W.heap.size bt bm T id (kidsOf T id) W.heap.size (some ⟨g, 0, none⟩) Ds O V)
            (fun c O ys V => c = .ret ∧ Jx O ((((kidsOf T id).take k).flatMap fun k => k :: dfs T d k) ++ x :: ys) V ∧ ∀ D ∈ Ds, ¬ O D ∧ W.heap.size ≤ D ∧ V.heap[D]? = some (.deferred (some [])))
            ?g3 ?g4 O2 (fun k hk => (hI3.own k hk).1) ?g2 ⟨by simpa using hj3, hI3⟩ ?g5 ?g6 ?g7
          case g1 =>
            intro k hk
            have := hI3.lt
            rcases hk with rfl | rfl | rfl | rfl
            · omega
            · omega
            · exact hI3.walk.tree.lt
            · exact hI3.walk.tree.map.lt
          case g2 =>
            intro k hk ho
            rcases hk with rfl | rfl | rfl | rfl
            · have := (hI2.own _ ho).1; omega
            · have := (hI2.own _ ho).1; omega
            · exact (hI2.own _ ho).2 (by simp [mineW])
            · exact (hI2.own _ ho).2 (by simp [mineW])
          case g3 =>
            rintro O ys V V' ⟨hj, hi⟩ hu
            have hWV : W.heap.size ≤ V3.heap.size := by have := hI3.l3; omega
            refine ⟨hJ _ _ _ _ hj (hu.mono (fun k _ h => ⟨by omega, h.2⟩)), hi.upd hu (fun k hm h => by have := hI3.lt k hm; omega) (fun k hk => ⟨.inl hk, by have := (hi.own k hk).1; have := hu.size; omega⟩)⟩
          case g4 =>
            rintro c O ys V V' ⟨rfl, hj, hd⟩ hu
            have hWV : W.heap.size ≤ V3.heap.size := by have := hI3.l3; omega
            refine ⟨rfl, hJx _ _ _ _ hj (hu.mono (fun k _ h => ⟨by omega, h.2⟩)), fun D hD => ?_⟩
            obtain ⟨h1, h2, h3⟩ := hd D hD
            have hlt3 := hI3.lt D (by simp [mineW, hD])
            exact ⟨h1, h2, (hu.block D (Array.getElem?_eq_some_iff.1 h3).1 (fun h => by omega)).trans h3⟩
          case g5 =>
            rintro l' O pre' y V ⟨hj, hi⟩ ⟨suf, hsuf⟩ hO hOl hll
            have HSUF := Sec.mk hsuf
            clear hsuf
            gi_wp2
            refine ⟨Upd.refl _ _, fun V4 hu4 hs4 ⟨hj4, hi4⟩ => ?_⟩
            obtain ⟨fn, tmps, assign, body, hy, hR⟩ := HY.out O _ y V4 hj4 ⟨suf ++ ((kidsOf T id).drop (k + 1)).flatMap fun k => k :: dfs T d k, by rw [HD.out, HSUF.out]; simp⟩ (fun k hk => (hi4.own k hk).1)
            have hc3 := hi4.c3
            have hl3 := hi4.l3
            have HS4 := Sec.mk hs4
            clear hs4 hj hi hj4
            gi_wp2
            refine (roundIn_in hR).mono ?_
            rintro e V5 (⟨rfl, O5, hj5, hu5, ho5, ho6⟩ | ⟨rfl, O5, hj5, hu5, ho5⟩)
            · gi_wp2
              exact ⟨O5, ⟨by simpa using hj5, hi4.upd hu5 (fun k hm hO => (hi4.own k hO).2 hm) (fun k hk => ⟨ho5 k hk, ho6 k hk⟩)⟩, hu5, ho5, ho6⟩
            · gi_wp2
              have hWV : W.heap.size ≤ V3.heap.size := by have := hI3.l3; omega
              refine ⟨O5, ⟨rfl, by simpa using hj5, fun D hD => ?_⟩, hu5.mono (fun k _ h => h.imp (fun h => h) (fun h => by omega)), ho5⟩
              have hm : mineW b1 b2 W.heap.size bt bm (some ⟨g, 0, none⟩) Ds D := by simp [mineW, hD]
              have hlt5 := hi4.lt D hm
              have hds := hi4.ds D hD
              refine ⟨fun h => ?_, hds.1, (hu5.block D hlt5 (fun h => ?_)).trans hds.2⟩
              · rcases ho5 D h with h | h
                · exact (hi4.own D h).2 hm
                · omega
              · rcases h with h | h
                · exact (hi4.own D h).2 hm
                · omega
          case g6 =>
            rintro D O V' hD hOD ⟨hj, hi⟩ hd
            have hDn : D ∉ Ds := fun h => by have := hI3.lt D (by simp [mineW, h]); omega
            have HJ6 := Sec.mk hj
            have hi6 : WInv l b1 b2 W.heap.size bt bm T id (kidsOf T id) W.heap.size (some ⟨g, 0, none⟩) (D :: Ds) O V' := by
              have hWV : W.heap.size ≤ V3.heap.size := by have := hI3.l3; omega
              refine ⟨hi.walk, hi.c3, hi.l3, hi.kids, hi.la, List.nodup_cons.2 ⟨hDn, hi.nd⟩, fun E hE => ?_, fun k hk => ⟨(hi.own k hk).1, fun hm => ?_⟩, fun hm => ?_⟩
              · rcases List.mem_cons.1 hE with rfl | hE
                · exact ⟨by omega, hd⟩
                · exact hi.ds E hE
              · rcases mineW_cons hm with rfl | h
                · exact hOD hk
                · exact (hi.own k hk).2 h
              · rcases mineW_cons hm with rfl | h
                · omega
                · exact hi.nl h
            clear hj hi hd
            gi_wp2
            refine ⟨⟨k + 1, D :: Ds, O, _, _, _, _, _, _, _, _, _, _, _, _, _, _, _, _, _, _, rfl, by omega, ?_, hi6⟩, by simp [intOf]; omega⟩
            have e1 : (kidsOf T id).take (k + 1) = (kidsOf T id).take k ++ [x] := by rw [List.take_add_one, HX.out]; rfl
            rw [e1, List.flatMap_append]
            simpa using HJ6.out
          case g7 =>
            rintro D c' O pre' V' hD hOD hpre ⟨rfl, hj, hds⟩ hd
            have hDn : D ∉ Ds := fun h => by have := hI3.lt D (by simp [mineW, h]); omega
            have hWV : W.heap.size ≤ V3.heap.size := by have := hI3.l3; omega
            have HJ7 := Sec.mk hj
            clear hj
            gi_wp2
            refine leaves_marks (D :: Ds) _ (List.nodup_cons.2 ⟨hDn, hI3.nd⟩) (fun E hE => ?_) (fun w' hu' hs' => ⟨_, results_none rfl _ _ _, ⟨_, rfl⟩, O, .inr ⟨_, ?_, hJx _ _ _ _ HJ7.out (hu'.mono (fun k hk he => ?_))⟩⟩)
            · rcases List.mem_cons.1 hE with rfl | hE
              · exact hd
              · exact (hds E hE).2.2
            · rw [HD.out]
              exact List.prefix_append_right_inj _ |>.2 (List.cons_prefix_cons.2 ⟨rfl, hpre.trans (List.prefix_append _ _)⟩)
            · rcases List.mem_cons.1 he with rfl | hE
              · exact ⟨by omega, hOD⟩
              · exact ⟨(hds k hE).2.1, (hds k hE).1⟩
        · have hds : ∀ D ∈ Ds, ¬ O2 D ∧ W.heap.size ≤ D ∧ V2.heap[D]? = some (.deferred (some [])) := fun D hD => by
            have hm : mineW b1 b2 W.heap.size bt bm (some ⟨g, 0, none⟩) Ds D := by simp [mineW, hD]
            have hlt5 := HI.out.lt D hm
            have hds := HI.out.ds D hD
            refine ⟨fun h => ?_, hds.1, (hu2.block D hlt5 (fun h => ?_)).trans hds.2⟩
            · rcases ho2 D h with h | h
              · exact (HI.out.own D h).2 hm
              · omega
            · rcases h with h | h
              · exact (HI.out.own D h).2 hm
              · omega
          have HJ8 := Sec.mk hj2
          clear hj2
          gi_wp2
          refine leaves_marks Ds _ HI.out.nd (fun E hE => (hds E hE).2.2) (fun w' hu' hs' => ⟨_, results_none rfl _ _ _, ⟨_, rfl⟩, O2, .inr ⟨_, ?_, hJx _ _ _ _ HJ8.out (hu'.mono (fun k hk he => ⟨(hds k he).2.1, (hds k he).1⟩))⟩⟩)
          rw [HD.out]
          exact List.prefix_append_right_inj _ |>.2 (List.cons_prefix_cons.2 ⟨rfl, List.nil_prefix⟩)
      · have hkn : k = (kidsOf T id).length := by omega
        have HK := Sec.mk hkn
        have HI := Sec.mk hi
        have HJ := Sec.mk hj
        clear hkn hi hj
        gi_wp2
        refine leaves_marks Ds _ HI.out.nd (fun D hD => (HI.out.ds D hD).2) (fun w' hu' hs' => ⟨_, results_none rfl _ _ _, ⟨_, rfl⟩, O, .inl ?_⟩)
        have hj := HJ.out
        rw [HK.out, List.take_length] at hj
        refine hJ _ _ _ _ hj (hu'.mono (fun k _ hk => ⟨(HI.out.ds k hk).1, fun hO => (HI.out.own k hO).2 (by simp [mineW, hk])⟩))
end Go.Proofs.YtkfnaahkfogcoaaDoor
