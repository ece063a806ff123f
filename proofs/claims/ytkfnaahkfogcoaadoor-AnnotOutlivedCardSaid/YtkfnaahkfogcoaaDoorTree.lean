/- The walks of package tree: who is below whom. -/
import Derived.Test.YtkfnaahkfogcoaaDoorRow
import Derived.Outline
import Derived.Handy
namespace Go.Proofs.YtkfnaahkfogcoaaDoor
open Go.RowKit

/-- A tree in memory: its struct in block bt, its map in block bm; T: each one's number and parent, in the order in which they came in. -/
structure TreeAt (w : World) (bt bm : Nat) (T : List (Int × Int)) : Prop where
  cell : w.cell? ⟨bt, 0, none⟩ = some (.map (some bm))
  lt : bt < w.heap.size
  map : MapI w bm (T.map fun p => (p.1, .int .i64 p.2))
  small : T.length ≤ 1000000000

theorem TreeAt.upd {S : Nat → Prop} {w w' : World} {bt bm : Nat} {T : List (Int × Int)} (h : TreeAt w bt bm T) (hu : Upd S w w') (h1 : ¬ S bt) (h2 : ¬ S bm) : TreeAt w' bt bm T :=
  ⟨(hu.cell (p := ⟨bt, 0, none⟩) h.lt h1).trans h.cell, Nat.lt_of_lt_of_le h.lt hu.size, h.map.upd hu h2, h.small⟩

def kidsOf (T : List (Int × Int)) (id : Int) : List Int := sortI ((T.filter fun p => p.2 = id).map (·.1))

set_option maxHeartbeats 400000 in
theorem kids_calls (w : World) (bt bm : Nat) (T : List (Int × Int)) (id : Int) (ht : TreeAt w bt bm T) :
    Calls Tryd.prog 21 #[.pointer (some ⟨bt, 0, none⟩), .int .i64 id] w fun e w' => ∃ v, e = .returned v ∧ OwnI w' w.heap.size v (kidsOf T id) ∧ Upd No w w' := by
  have hcell := ht.cell
  obtain ⟨w1, hrun, hit, hu1, hsz⟩ := ht.map.range (P := Tryd.prog) Tryd.underlying55
  go_enter Tryd.func21, Tryd.ntmps21
  go_wp2
  go_loopg [5] (T.length) (fun k v wr => ∃ pre left : List (Int × Int), left.length = k ∧ IterI wr w.heap.size bm (T.map fun p => (p.1, .int .i64 p.2)) (left.map fun p => (p.1, .int .i64 p.2)) ∧ (pre ++ left).Perm T ∧
    OwnI wr (w.heap.size + 1) v ((pre.filter fun p => p.2 = id).map (·.1)) ∧ Upd No w wr)
  case atStart => exact ⟨[], T, rfl, hit, by simp, World.ownsRow_nil _ _ _ _, hu1⟩
  case round =>
    obtain ⟨pre, left, hk, hi, hp, ho, hu⟩ := hrel
    rcases hi.next (P := Tryd.prog) with ⟨hnil, hrun1⟩ | ⟨k, v, l1, l2, w2, hl, hrun1, hent, hi2, hu2, hsz2⟩
    · have hnil' : left = [] := by simpa using hnil
      subst hnil'
      simp only [List.append_nil] at hp
      have hlen : ((pre.filter fun p => p.2 = id).map (·.1)).length < 4611686018427387904 := by
        have h1 := List.length_filter_le (fun p => decide (p.2 = id)) pre
        have h2 := hp.length_eq
        have h3 := ht.small
        simp; omega
      have hkids : sortI ((pre.filter fun p => p.2 = id).map (·.1)) = kidsOf T id := mergeSort_perm_eq ((hp.filter _).map _)
      have HK := Sec.mk hkids
      have HL := Sec.mk hlen
      clear hkids hlen
      go_wp2_with (go_at_call 18; refine (sort_own _ _ _ _ ho HL.out).mono ?_; rintro e w' ⟨rfl, ho', hu'⟩)
      go_ret
      refine ⟨_, rfl, ?_, hu.trans hu' (fun k hk hs => ?_)⟩
      · rw [← HK.out]; exact own_mono ho' (by omega)
      · have := own_new ho k hs.symm; omega
    · obtain ⟨p1, p2, hleft, hp1, hp2⟩ := List.map_eq_append_iff.1 hl
      obtain ⟨⟨k', i⟩, p3, hp3, hp4, hp5⟩ := List.map_eq_cons_iff.1 hp2
      simp only [Prod.mk.injEq] at hp4
      obtain ⟨rfl, rfl⟩ := hp4
      subst hp1 hp5 hp3
      have hbm : bm ≠ w.heap.size := by have := ht.map.lt; omega
      have hown2 : OwnI w2 (w.heap.size + 1) u5 ((pre.filter fun p => p.2 = id).map (·.1)) := own_upd ho hu2 (fun k hk e => by have := own_new ho k hk; omega)
      have hu02 : Upd No w w2 := hu.trans hu2 (fun k hk e => by omega)
      have hperm : ((pre ++ [(k', i)]) ++ (p1 ++ p3)).Perm T := by
        refine List.Perm.trans ?_ hp
        rw [hleft, List.append_assoc]
        refine List.Perm.append_left _ ?_
        exact (List.perm_middle (a := (k', i)) (l₁ := p1) (l₂ := p3)).symm
      have hke := hent w2 rfl rfl
      have HI := Sec.mk hi2
      have HP := Sec.mk hperm
      have HL := Sec.mk hleft
      have hmm : (p1 ++ p3).length < gk := by rw [← hk, hleft]; simp
      have hb0 : w.heap.size + 1 ≤ w2.heap.size := by have := hi2.lt; omega
      have hlen : ((pre.filter fun p => p.2 = id).map (·.1)).length ≤ 1000000000000 := by
        have h1 := List.length_filter_le (fun p => decide (p.2 = id)) pre
        have h2 := hp.length_eq
        have h3 := ht.small
        simp at h2 ⊢; omega
      clear hi hp hleft hk hi2 hperm hent hl hp2 hit hrun hsz hsz2
      by_cases hid : i = id
      · have hid' : (i == id) = true := by simpa using hid
        have HD := Sec.mk hid
        clear hid
        go_wp2_with (at_builtin; refine app_int (W := w2) (w.heap.size + 1) rfl (.tmp 21) (.tmp 23) rfl u5 _ k' rfl rfl hown2 hb0 hlen (fun v1 w3 ho3 hu3 _ => ?_))
        go_roundg (p1 ++ p3).length
        case measure => exact hmm
        case rel =>
          have hlt := HI.out.lt
          have h1 : ∀ k, some k = u5.ownBlock → w.heap.size + 1 ≤ k := fun k e => own_new hown2 k e.symm
          have hm := ht.map.lt
          have HI3 := HI.out.upd hu3 (fun e => by have := h1 _ e; omega) (fun e => by have := h1 _ e; omega)
          exact ⟨pre ++ [(k', i)], p1 ++ p3, rfl, by simpa using HI3, HP.out, by simpa [HD.out] using ho3, hu02.trans hu3 (fun k hk e => by have := h1 _ e; omega)⟩
      · have hid' : (i == id) = false := by simpa using hid
        have HD := Sec.mk hid
        clear hid
        go_wp2
        go_roundg (p1 ++ p3).length
        case measure => exact hmm
        case rel =>
          refine ⟨pre ++ [(k', i)], p1 ++ p3, rfl, by simpa using HI.out, HP.out, ?_, hu02⟩
          simpa [HD.out] using hown2

def hasT (T : List (Int × Int)) (id : Int) : Bool := T.any (·.1 == id)
abbrev mapT (T : List (Int × Int)) : List (Int × Value) := T.map fun p => (p.1, .int .i64 p.2)
theorem getI_mapT (T : List (Int × Int)) (id : Int) : (getI (mapT T) id).isSome = hasT T id := by
  cases h : getI (mapT T) id with
  | none =>
    have := getI_none.1 h
    simp only [Option.isSome_none, hasT]
    symm
    rw [List.any_eq_false]
    intro p hp e
    exact this (List.mem_map.2 ⟨(p.1, .int .i64 p.2), List.mem_map.2 ⟨p, hp, rfl⟩, by simpa using e⟩)
  | some v =>
    have := getI_some h
    obtain ⟨p, hp, e⟩ := List.mem_map.1 this
    simp only [Prod.mk.injEq] at e
    simp only [Option.isSome_some, hasT]
    symm
    rw [List.any_eq_true]
    exact ⟨p, hp, by simp [e.1]⟩

theorem TreeAt.ne {w : World} {bt bm : Nat} {T : List (Int × Int)} (h : TreeAt w bt bm T) : bt ≠ bm := by
  rintro rfl
  obtain ⟨es, clock, hb, _⟩ := h.map
  have := h.cell
  simp [World.cell?, hb] at this

theorem has_calls (w : World) (bt bm : Nat) (T : List (Int × Int)) (id : Int) (ht : TreeAt w bt bm T) :
    Calls Tryd.prog 20 #[.pointer (some ⟨bt, 0, none⟩), .int .i64 id] w fun e w' => e = .returned (.bool (hasT T id)) ∧ w = w' := by
  have hcell := ht.cell
  have hl := ht.map.lookup_ok (P := Tryd.prog) Tryd.underlying55 Tryd.underlying3 (z := .int .i64 0) (by kernel_rfl) id
  rw [getI_mapT] at hl
  go_enter Tryd.func20, Tryd.ntmps20
  go_wp2
  go_ret
  exact ⟨rfl, rfl⟩

theorem tnew_calls (w : World) :
    Calls Tryd.prog 11 #[] w fun e w' => ∃ bt bm, e = .returned (.pointer (some ⟨bt, 0, none⟩)) ∧ TreeAt w' bt bm [] ∧ w.heap.size ≤ bt ∧ w.heap.size ≤ bm ∧ Upd No w w' := by
  have hmm := @run_makeMap Tryd.prog
  go_enter Tryd.func11, Tryd.ntmps11
  go_wp2
  go_ret
  refine ⟨w.heap.size + 1, w.heap.size, rfl, ⟨?_, by simp, ?_, by simp⟩, by omega, Nat.le_refl _, ((Upd.refl _ w).alloc _).alloc _⟩
  · rw [World.cell?_alloc_at _ _ _ _ (by simp)]; rfl
  · exact (MapI.made w).upd ((Upd.refl No _).alloc _) (fun e => e)

/-- The tree's answer to Add: the tree behind it, the error's number. -/
def addT (T : List (Int × Int)) (id parent : Int) : List (Int × Int) × Int :=
  if id < 1 ∨ hasT T id = true then (T, 1) else if parent ≠ 0 ∧ hasT T parent = false then (T, 2) else (T ++ [(id, parent)], 0)
/-- .. and to Remove. -/
def remT (T : List (Int × Int)) (id : Int) : List (Int × Int) × Int :=
  if hasT T id = false then (T, 2) else if kidsOf T id ≠ [] then (T, 6) else (T.filter (fun p => p.1 ≠ id), 0)

theorem getI_mapT_none {T : List (Int × Int)} {id : Int} (h : hasT T id = false) : getI (mapT T) id = none := by
  have := getI_mapT T id
  rw [h] at this
  cases hg : getI (mapT T) id with
  | none => rfl
  | some v => rw [hg] at this; simp at this

theorem add_calls (w : World) (bt bm : Nat) (T : List (Int × Int)) (id parent : Int) (ht : TreeAt w bt bm T) (hs : T.length < 1000000000) :
    Calls Tryd.prog 12 #[.pointer (some ⟨bt, 0, none⟩), .int .i64 id, .int .i64 parent] w fun e w' =>
      e = .returned (.int .i64 (addT T id parent).2) ∧ TreeAt w' bt bm (addT T id parent).1 ∧ Upd (fun k => k = bm) w w' ∧ w'.heap.size = w.heap.size := by
  have hcell := ht.cell
  by_cases h1 : id < 1
  · have hr : addT T id parent = (T, 1) := by simp [addT, h1]
    rw [hr]
    have hd : decide (id < 1) = true := by simpa using h1
    go_enter Tryd.func12, Tryd.ntmps12
    go_wp2
    go_ret
    exact ⟨rfl, ht, Upd.refl _ _, rfl⟩
  have hd : decide (id < 1) = false := by simpa using h1
  cases h2 : hasT T id with
  | true =>
    have hr : addT T id parent = (T, 1) := by simp [addT, h2]
    rw [hr]
    go_enter Tryd.func12, Tryd.ntmps12
    go_wp2_with (go_at_call 20; refine (has_calls _ _ _ _ _ ht).mono ?_; rintro e w' ⟨rfl, rfl⟩)
    go_ret
    exact ⟨rfl, ht, Upd.refl _ _, rfl⟩
  | false =>
    by_cases h3 : parent = 0
    · subst h3
      have hr : addT T id 0 = (T ++ [(id, 0)], 0) := by simp [addT, h2, h1]
      rw [hr]
      obtain ⟨w1, hrun, hm1, hu1, hs1⟩ := ht.map.update (P := Tryd.prog) Tryd.underlying55 Tryd.underlying3 id (.int .i64 0)
      have HS := Sec.mk hs1
      rw [putI_keys_new _ (getI_mapT_none h2)] at hm1
      clear hs1
      go_enter Tryd.func12, Tryd.ntmps12
      go_wp2_with (go_at_call 20; refine (has_calls _ _ _ _ _ ht).mono ?_; rintro e w' ⟨rfl, rfl⟩)
      go_ret
      have hne := ht.ne
      exact ⟨rfl, ⟨(hu1.cell (p := ⟨bt, 0, none⟩) ht.lt hne).trans ht.cell, Nat.lt_of_lt_of_le ht.lt hu1.size, by simpa using hm1, by simp; omega⟩, hu1, HS.out⟩
    · have hd3 : (parent != 0) = true := by simpa using h3
      cases h4 : hasT T parent with
      | false =>
        have hr : addT T id parent = (T, 2) := by simp [addT, h2, h1, h3, h4]
        rw [hr]
        clear h3
        go_enter Tryd.func12, Tryd.ntmps12
        go_wp2_with (go_at_call 20; refine (has_calls _ _ _ _ _ ht).mono ?_; rintro e w' ⟨rfl, rfl⟩)
        go_ret
        exact ⟨rfl, ht, Upd.refl _ _, rfl⟩
      | true =>
        have hr : addT T id parent = (T ++ [(id, parent)], 0) := by simp [addT, h2, h1, h4]
        rw [hr]
        obtain ⟨w1, hrun, hm1, hu1, hs1⟩ := ht.map.update (P := Tryd.prog) Tryd.underlying55 Tryd.underlying3 id (.int .i64 parent)
        have HS := Sec.mk hs1
        rw [putI_keys_new _ (getI_mapT_none h2)] at hm1
        clear hs1 h3
        go_enter Tryd.func12, Tryd.ntmps12
        go_wp2_with (go_at_call 20; refine (has_calls _ _ _ _ _ ht).mono ?_; rintro e w' ⟨rfl, rfl⟩)
        go_ret
        have hne := ht.ne
        exact ⟨rfl, ⟨(hu1.cell (p := ⟨bt, 0, none⟩) ht.lt hne).trans ht.cell, Nat.lt_of_lt_of_le ht.lt hu1.size, by simpa using hm1, by simp; omega⟩, hu1, HS.out⟩

theorem delI_mapT (T : List (Int × Int)) (id : Int) : delI (mapT T) id = mapT (T.filter fun p => p.1 ≠ id) := by
  simp only [delI, mapT, List.filter_map]
  rfl
theorem rem_calls (w : World) (bt bm : Nat) (T : List (Int × Int)) (id : Int) (ht : TreeAt w bt bm T) :
    Calls Tryd.prog 9 #[.pointer (some ⟨bt, 0, none⟩), .int .i64 id] w fun e w' =>
      e = .returned (.int .i64 (remT T id).2) ∧ TreeAt w' bt bm (remT T id).1 ∧ Upd (fun k => k = bm) w w' := by
  have hcell := ht.cell
  cases h1 : hasT T id with
  | false =>
    have hr : remT T id = (T, 2) := by simp [remT, h1]
    rw [hr]
    go_enter Tryd.func9, Tryd.ntmps9
    go_wp2_with (go_at_call 20; refine (has_calls _ _ _ _ _ ht).mono ?_; rintro e w' ⟨rfl, rfl⟩)
    go_ret
    exact ⟨rfl, ht, Upd.refl _ _⟩
  | true =>
    have hne := ht.ne
    have hlt := ht.lt
    have hml := ht.map.lt
    rcases hk : kidsOf T id with _ | ⟨k0, kr⟩
    · have hr : remT T id = (T.filter (fun p => p.1 ≠ id), 0) := by simp [remT, h1, hk]
      rw [hr]
      have HK := Sec.mk hk
      clear hk
      go_enter Tryd.func9, Tryd.ntmps9
      go_wp2_with (first | (go_at_call 20; refine (has_calls _ _ _ _ _ ht).mono ?_; rintro e w' ⟨rfl, rfl⟩) | (go_at_call 21; refine (kids_calls _ _ _ _ _ ht).mono ?_; rintro e w1 ⟨v, rfl, ho, hu⟩; rw [HK.out] at ho; obtain ⟨a, c, rfl⟩ := ho.nil; obtain ⟨w2, hrun2, hm2, hu2, hs2⟩ := (ht.map.upd hu (fun e => e)).delete (P := Tryd.prog) (ty := 0) Tryd.underlying55 Tryd.underlying3 id #[55, 3] rfl; have hc1 := (hu.cell (p := ⟨bt, 0, none⟩) hlt (fun e => e)).trans hcell; have HS := Sec.mk hs2; clear hs2))
      all_goals
        go_ret
        refine ⟨rfl, ⟨(hu2.cell (p := ⟨bt, 0, none⟩) (Nat.lt_of_lt_of_le hlt hu.size) hne).trans hc1, by have := hu.size; have := hu2.size; omega, by have h := hm2; rw [delI_mapT] at h; exact h, ?_⟩, (hu.mono (fun _ _ e => e.elim)).step hu2⟩
        exact Nat.le_trans (List.length_filter_le _ _) ht.small
    · have hr : remT T id = (T, 6) := by simp [remT, h1, hk]
      rw [hr]
      have HK := Sec.mk hk
      clear hk
      go_enter Tryd.func9, Tryd.ntmps9
      go_wp2_with (first | (go_at_call 20; refine (has_calls _ _ _ _ _ ht).mono ?_; rintro e w' ⟨rfl, rfl⟩) | (go_at_call 21; refine (kids_calls _ _ _ _ _ ht).mono ?_; rintro e w1 ⟨v, rfl, ho, hu⟩; rw [HK.out] at ho; obtain ⟨g, c, rfl, _, _, _⟩ := ho.cons))
      all_goals
        go_ret
        exact ⟨rfl, ht.upd hu (fun e => e) (fun e => e), hu.mono (fun _ _ e => e.elim)⟩
end Go.Proofs.YtkfnaahkfogcoaaDoor
