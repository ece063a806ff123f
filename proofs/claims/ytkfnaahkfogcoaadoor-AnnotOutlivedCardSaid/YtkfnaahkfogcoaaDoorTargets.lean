/- Where a field may point to. -/
import Derived.Test.YtkfnaahkfogcoaaDoorAnnot
namespace Go.Proofs.YtkfnaahkfogcoaaDoor
open Go.RowKit

def targetsT (T : List (Int × Int)) (kind holder : Int) : List Int := sortI ((walkT T 0).filter fun id => checkT T kind holder id == 0)

set_option maxHeartbeats 800000 in
set_option maxRecDepth 100000 in
theorem targets_calls (w : World) (bt bm : Nat) (T : List (Int × Int)) (kind holder : Int) (ht : TreeAt w bt bm T) (hok : TreeOk T) (hw : What w) :
    Calls Tryd.prog 7 #[.pointer (some ⟨bt, 0, none⟩), .int .i64 kind, .int .i64 holder] w fun e w' => ∃ v, e = .returned v ∧ OwnI w' w.heap.size v (targetsT T kind holder) ∧ Upd No w w' := by
  have hlt := ht.lt
  have hsm : (walkT T 0).length ≤ 1000000000 := Nat.le_trans (hok 0 (.inl rfl)).2 ht.small
  go_enter Tryd.func7, Tryd.ntmps7
  go_wp2_with (go_at_call 6; refine (Walk_calls _ _ _ _ ht hok).mono ?_; rintro e w1 ⟨v, rfl, ho, hu1⟩; obtain ⟨a, c, rfl, hrd⟩ := ho.read)
  go_loopw [7, 16] (fun v7 i wr => ∃ k : Nat, k ≤ (walkT T 0).length ∧ i = .int .i64 k ∧ OwnI wr w1.heap.size v7 (((walkT T 0).take k).filter fun id => checkT T kind holder id == 0) ∧ Upd No w1 wr) (fun _ i _ => (walkT T 0).length - (intOf i).toNat)
  case atStart => exact ⟨0, by omega, rfl, World.ownsRow_nil _ _ _ _, Upd.refl _ _⟩
  case round =>
    obtain ⟨k, hk, rfl, hov, hur⟩ := hrel
    by_cases hlt : k < (walkT T 0).length
    · obtain ⟨g, rfl, hg1, hg2, hcell⟩ := hrd.out (by omega)
      obtain ⟨x, hx⟩ : ∃ x, (walkT T 0)[k]? = some x := ⟨_, List.getElem?_eq_getElem hlt⟩
      have hce := (hur.cell (p := ⟨g, k, none⟩) hg2 (fun e => e)).trans (hcell k hlt)
      rw [hx] at hce
      simp only [Option.getD_some] at hce
      have htr := (ht.upd hu1 (fun e => e) (fun e => e)).upd hur (fun e => e) (fun e => e)
      have hwr := (hw.upd hu1 (fun e => e)).upd hur (fun e => e)
      have e1 : (walkT T 0).take (k + 1) = (walkT T 0).take k ++ [x] := by rw [List.take_add_one, hx]; rfl
      have HX := Sec.mk hx
      have HE := Sec.mk e1
      clear hcell hx e1
      have hpl : (((walkT T 0).take k).filter fun id => checkT T kind holder id == 0).length ≤ 1000000000000 := by
        have h1 := List.length_filter_le (fun id => checkT T kind holder id == 0) ((walkT T 0).take k)
        have h2 := List.length_take_le k (walkT T 0)
        omega
      have HP := Sec.mk hpl
      clear hpl
      cases hc : (checkT T kind holder x == 0) with
      | true =>
        have HC := Sec.mk hc
        have hc' : checkT T kind holder x = 0 := by simpa using hc
        have HC' := Sec.mk hc'
        clear hc hc'
        go_wp2_with (first | (go_at_call 13; refine (check_calls _ _ _ _ _ _ _ htr hok hwr).mono ?_; rintro e w2 ⟨rfl, hu2⟩; rw [HC'.out]; have hov2 := hov.upd hu2 (fun _ _ e => e); have hb2 := Nat.le_trans hur.size hu2.size) | (at_builtin; refine app_int (W := w2) w1.heap.size rfl (.tmp 26) (.tmp 28) rfl _ _ x rfl rfl hov2 hb2 HP.out (fun v1 w3 ho3 hu3 _ => ?_)))
        go_roundw
        case rel =>
          refine ⟨k + 1, by omega, by go_num, ?_, (hur.step hu2).trans hu3 (fun j hj e => ?_)⟩
          · rw [HE.out, List.filter_append]
            simpa [HC.out] using ho3
          · have := own_new hov2 j e.symm; omega
        case measure => simp [intOf]; omega
      | false =>
        have HC := Sec.mk hc
        have hd : (checkT T kind holder x == 0) = false := hc
        clear hc
        go_wp2_with (go_at_call 13; refine (check_calls _ _ _ _ _ _ _ htr hok hwr).mono ?_; rintro e w2 ⟨rfl, hu2⟩; have hov2 := hov.upd hu2 (fun _ _ e => e))
        go_roundw
        case rel =>
          refine ⟨k + 1, by omega, by go_num, ?_, hur.step hu2⟩
          rw [HE.out, List.filter_append]
          simpa [HC.out] using hov2
        case measure => simp [intOf]; omega
    · have hkn : k = (walkT T 0).length := by omega
      have HN := Sec.mk hkn
      clear hkn
      have hpl : (((walkT T 0).take k).filter fun id => checkT T kind holder id == 0).length < 4611686018427387904 := by
        have h1 := List.length_filter_le (fun id => checkT T kind holder id == 0) ((walkT T 0).take k)
        have h2 := List.length_take_le k (walkT T 0)
        omega
      have HP := Sec.mk hpl
      clear hpl
      go_wp2_with (go_at_call 18; refine (sort_own _ _ _ _ hov HP.out).mono ?_; rintro e w2 ⟨rfl, ho2, hu2⟩)
      go_ret
      refine ⟨_, rfl, ?_, (hu1.step hur).trans hu2 (fun j hj e => ?_)⟩
      · have := own_mono ho2 hu1.size
        rw [HN.out, List.take_length] at this
        exact this
      · have := own_new hov j e.symm; have := hu1.size; omega
end Go.Proofs.YtkfnaahkfogcoaaDoor
