/- A tree behind acts, and the document's rows. -/
import Derived.Test.YtkfnaahkfogcoaaDoorRef5
import Derived.Test.YtkfnaahkfogcoaaDoorTargets
namespace Go.Proofs.YtkfnaahkfogcoaaDoor
open Go.RowKit

structure ActT where
  id : Int
  parent : Int
  out : Bool
def encAct (a : ActT) : List Value := [.int .i64 a.id, .int .i64 a.parent, .bool a.out]
theorem good_act : Good (Flat encAct) 3 := good_flat (fun _ => rfl) (fun x u hu => by simp [encAct] at hu; rcases hu with rfl | rfl | rfl <;> rfl)
def stepT (T : List (Int × Int)) (a : ActT) : List (Int × Int) := if a.out = true then (remT T a.id).1 else (addT T a.id a.parent).1
def stepX (X : List (Int × Int)) (a : ActT) : List (Int × Int) := if a.out = true then (rem5 X a.id).1 else (add5 X a.id a.parent).1
def playT (l : List ActT) : List (Int × Int) := l.foldl stepT []
def playX (l : List ActT) : List (Int × Int) := l.foldl stepX []
theorem addT_len (T : List (Int × Int)) (i p : Int) : (addT T i p).1.length ≤ T.length + 1 := by
  unfold addT; split
  · simp
  · split <;> simp
theorem remT_len (T : List (Int × Int)) (i : Int) : (remT T i).1.length ≤ T.length := by
  unfold remT; split
  · simp
  · split
    · simp
    · exact List.length_filter_le _ _
theorem add5_len (X : List (Int × Int)) (i p : Int) : (add5 X i p).1.length ≤ X.length + 1 := by
  unfold add5; split
  · simp
  · split
    · simp
    · have := congrArg List.length (List.takeWhile_append_dropWhile (p := fun r : Int × Int => decide (r.1 < i)) (l := X))
      rw [List.length_append] at this
      simp only [List.length_append, List.length_cons, List.length_nil]
      omega
theorem rem5_len (X : List (Int × Int)) (i : Int) : (rem5 X i).1.length ≤ X.length := by
  unfold rem5; split
  · simp
  · split
    · simp
    · exact List.length_filter_le _ _
theorem stepT_len (T : List (Int × Int)) (a : ActT) : (stepT T a).length ≤ T.length + 1 := by
  unfold stepT; split
  · exact Nat.le_succ_of_le (remT_len T _)
  · exact addT_len T _ _
theorem stepX_len (T : List (Int × Int)) (a : ActT) : (stepX T a).length ≤ T.length + 1 := by
  unfold stepX; split
  · exact Nat.le_succ_of_le (rem5_len T _)
  · exact add5_len T _ _
theorem play_len {f : List (Int × Int) → ActT → List (Int × Int)} (h : ∀ T a, (f T a).length ≤ T.length + 1) : ∀ (l : List ActT) (T : List (Int × Int)), (l.foldl f T).length ≤ T.length + l.length
  | [], T => by simp
  | a :: l, T => by
    have := play_len h l (f T a)
    have := h T a
    simp only [List.foldl_cons, List.length_cons]
    omega
theorem playT_len (l : List ActT) : (playT l).length ≤ l.length := by simpa [playT] using play_len stepT_len l []
theorem playX_len (l : List ActT) : (playX l).length ≤ l.length := by simpa [playX] using play_len stepX_len l []
theorem playT_snoc (l : List ActT) (a : ActT) : playT (l ++ [a]) = stepT (playT l) a := by simp [playT]
theorem playX_snoc (l : List ActT) (a : ActT) : playX (l ++ [a]) = stepX (playX l) a := by simp [playX]

def GrowI (w wr : World) (bt bm : Nat) (vx : Value) (l : List ActT) : Prop :=
  TreeAt wr bt bm (playT l) ∧ RS RRow 2 (fun k => k ≠ bm) wr vx (playX l) ∧ Upd No w wr

set_option maxHeartbeats 1600000 in
set_option maxRecDepth 100000 in
theorem grown_calls (w : World) (D : Nat → Prop) (v : Value) (l : List ActT) (h : RS (Flat encAct) 3 D w v l) (hs : l.length ≤ 60) :
    Calls Tryd.prog 5 #[v] w fun e w' => ∃ bt bm vx, e = .returned (.tuple #[.pointer (some ⟨bt, 0, none⟩), vx]) ∧ GrowI w w' bt bm vx l ∧ w.heap.size ≤ bt ∧ w.heap.size ≤ bm := by
  obtain ⟨a, c, rfl, hc, hm⟩ := h.form
  go_enter Tryd.func5, Tryd.ntmps5
  go_wp2_with (go_at_call 11; refine (tnew_calls _).mono ?_; rintro e w1 ⟨bt, bm, rfl, ht1, hbt, hbm, hu1⟩; have hlm := ht1.map.lt; have hlt := ht1.lt)
  go_loopw [5, 16] (fun vx i wr => ∃ k : Nat, k ≤ l.length ∧ i = .int .i64 k ∧ GrowI w wr bt bm vx (l.take k)) (fun _ i _ => l.length - (intOf i).toNat)
  case atStart =>
    refine ⟨0, by omega, rfl, ht1.upd ((Upd.refl No _).alloc _) (fun e => e) (fun e => e), ?_, hu1.alloc _⟩
    exact RS.nil _ _ _ _ _ _
  case round =>
    obtain ⟨k, hk, rfl, hT, hX, hur⟩ := hrel
    by_cases hlt2 : k < l.length
    · have h' := h.upd good_act hur (fun _ _ e => e)
      obtain ⟨b, off, x, vs, rfl, _, hb, hx, rfl, hcell⟩ := h'.at_ hlt2
      have hc0 := hcell 0 _ rfl
      have hc1 := hcell 1 _ rfl
      have hc2 := hcell 2 _ rfl
      simp only [Nat.add_zero] at hc0
      have htk : l.take (k + 1) = l.take k ++ [x] := by rw [List.take_add_one, hx]; rfl
      have HX := Sec.mk hx
      have HK := Sec.mk htk
      have hTl : (playT (l.take k)).length ≤ 60 := Nat.le_trans (playT_len _) (by rw [List.length_take]; omega)
      have hXl : (playX (l.take k)).length ≤ 60 := Nat.le_trans (playX_len _) (by rw [List.length_take]; omega)
      have HTl := Sec.mk hTl
      have HXl := Sec.mk hXl
      have hbm2 : bm < wr.heap.size := hT.map.lt
      have hbt2 : bt < wr.heap.size := hT.lt
      clear hcell hx htk hTl hXl
      have hT' := hT.upd ((Upd.refl No wr).alloc (.cells #[.int .i64 x.id, .int .i64 x.parent, .bool x.out] 40)) (fun e => e) (fun e => e)
      have hX' := hX.upd good_row ((Upd.refl No wr).alloc (.cells #[.int .i64 x.id, .int .i64 x.parent, .bool x.out] 40)) (fun _ _ e => e)
      obtain ⟨xid, xpar, xout⟩ := x
      simp only at hc0 hc1 hc2 hT' hX'
      have e0 : Sec ((wr.alloc (.cells #[.int .i64 xid, .int .i64 xpar, .bool xout] 40)).cell? ⟨wr.heap.size, 0, none⟩ = some (.int .i64 xid)) := ⟨by rw [World.cell?_alloc_at _ _ _ _ rfl]; rfl⟩
      have e1 : Sec ((wr.alloc (.cells #[.int .i64 xid, .int .i64 xpar, .bool xout] 40)).cell? ⟨wr.heap.size, 1, none⟩ = some (.int .i64 xpar)) := ⟨by rw [World.cell?_alloc_at _ _ _ _ rfl]; rfl⟩
      have hne : wr.heap.size ≠ bm := by omega
      have hlz : wr.heap.size < (wr.alloc (.cells #[.int .i64 xid, .int .i64 xpar, .bool xout] 40)).heap.size := by simp
      have HZ := Sec.mk hlz
      clear hlz
      cases xout with
      | true =>
        go_wp2_with (first
          | (go_at_call 9; refine (rem_calls _ _ _ _ _ hT').mono ?_; rintro e w2 ⟨rfl, ht2, hu2⟩
             have hc3 : w2.cell? ⟨wr.heap.size, 0, none⟩ = some (.int .i64 xid) := (hu2.cell (p := ⟨wr.heap.size, 0, none⟩) HZ.out hne).trans e0.out
             have hx2 := hX'.upd good_row hu2 (fun _ e => e))
          | (go_at_call 14; refine (rem5_calls _ _ _ _ _ hx2 (Nat.le_trans HXl.out (by decide))).mono ?_; rintro e w3 ⟨vx, rfl, hx3, hu3⟩))
        go_roundw
        case rel =>
          refine ⟨k + 1, by omega, by go_num, ?_, ?_, ?_⟩
          · rw [HK.out, playT_snoc]
            exact ht2.upd hu3 (fun e => e) (fun e => e)
          · rw [HK.out, playX_snoc]
            rcases hx3 with ⟨rfl, e⟩ | ho
            · have := hx2.upd good_row hu3 (fun _ _ e => e)
              unfold stepX
              rw [if_pos rfl, e]
              exact this
            · unfold stepX
              rw [if_pos rfl]
              exact OwnS.rs good_row ho (fun _ e => e.elim) (fun j hj => by have h1 := ho.new j hj; have := hu2.size; have := HZ.out; omega)
          · exact ((hur.alloc _).trans hu2 (fun j hj e => by omega)).step hu3
        case measure => simp [intOf]; omega
      | false =>
        go_wp2_with (first
          | (go_at_call 12; refine (add_calls _ _ _ _ _ _ hT' (Nat.lt_of_le_of_lt HTl.out (by decide))).mono ?_; rintro e w2 ⟨rfl, ht2, hu2, _⟩
             have hc3 : w2.cell? ⟨wr.heap.size, 0, none⟩ = some (.int .i64 xid) := (hu2.cell (p := ⟨wr.heap.size, 0, none⟩) HZ.out hne).trans e0.out
             have hc4 : w2.cell? ⟨wr.heap.size, 1, none⟩ = some (.int .i64 xpar) := (hu2.cell (p := ⟨wr.heap.size, 1, none⟩) HZ.out hne).trans e1.out
             have hx2 := hX'.upd good_row hu2 (fun _ e => e))
          | (go_at_call 15; refine (add5_calls _ _ _ _ _ _ hx2 (Nat.le_trans HXl.out (by decide))).mono ?_; rintro e w3 ⟨vx, rfl, hx3, hu3⟩))
        go_roundw
        case rel =>
          refine ⟨k + 1, by omega, by go_num, ?_, ?_, ?_⟩
          · rw [HK.out, playT_snoc]
            exact ht2.upd hu3 (fun e => e) (fun e => e)
          · rw [HK.out, playX_snoc]
            rcases hx3 with ⟨rfl, e⟩ | ho
            · have := hx2.upd good_row hu3 (fun _ _ e => e)
              unfold stepX
              rw [if_neg (by simp), e]
              exact this
            · unfold stepX
              rw [if_neg (by simp)]
              exact OwnS.rs good_row ho (fun _ e => e.elim) (fun j hj => by have h1 := ho.new j hj; have := hu2.size; have := HZ.out; omega)
          · exact ((hur.alloc _).trans hu2 (fun j hj e => by omega)).step hu3
        case measure => simp [intOf]; omega
    · have hkn : k = l.length := by omega
      have HN := Sec.mk hkn
      clear hkn
      rw [HN.out, List.take_length] at hT hX
      go_wp2
      exact bodyPost_ret (v := .tuple #[.pointer (some ⟨bt, 0, none⟩), u5]) (by simp [results, Tryd.results5, go_sem]) rfl ⟨_, _, _, rfl, ⟨hT, hX, hur⟩, hbt, hbm⟩
end Go.Proofs.YtkfnaahkfogcoaaDoor
