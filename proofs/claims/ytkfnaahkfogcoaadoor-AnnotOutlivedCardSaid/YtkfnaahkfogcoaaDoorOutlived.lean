/- The walk of AnnotOutlived. -/
import Derived.Test.YtkfnaahkfogcoaaDoorPure
namespace Go.Proofs.YtkfnaahkfogcoaaDoor
open Go.RowKit

theorem fixed_facts : addT [] 1 0 = ([(1, 0)], 0) ∧ addT [(1, 0)] 2 1 = ([(1, 0), (2, 1)], 0) ∧ checkT [(1, 0), (2, 1)] 3 2 1 = 0 ∧ checkT [(1, 0), (2, 1)] 3 1 2 = 5 := by
  have k0 : kidsOf [(1, 0), (2, 1)] 0 = [1] := by simp [kidsOf, sortI]
  have k1 : kidsOf [(1, 0), (2, 1)] 1 = [2] := by simp [kidsOf, sortI]
  have k2 : kidsOf [(1, 0), (2, 1)] 2 = [] := by simp [kidsOf, sortI]
  have w0 : walkT [(1, 0), (2, 1)] 0 = [1, 2] := by simp [walkT, dfs, k0, k1, k2]
  have w1 : walkT [(1, 0), (2, 1)] 1 = [2] := by simp [walkT, dfs, k1, k2]
  have w2 : walkT [(1, 0), (2, 1)] 2 = [] := by simp [walkT, dfs, k2]
  refine ⟨rfl, rfl, ?_, ?_⟩
  · rw [checkT_some rfl (by decide) rfl rfl]
    have : withinT [(1, 0), (2, 1)] 2 1 = true := by
      unfold withinT ivalT; rw [w0, w1, w2]; rfl
    rw [this]; rfl
  · rw [checkT_some rfl (by decide) rfl rfl]
    have : withinT [(1, 0), (2, 1)] 1 2 = false := by
      unfold withinT ivalT; rw [w0, w1, w2]; rfl
    rw [this]; rfl

set_option maxHeartbeats 800000 in
set_option maxRecDepth 100000 in
theorem fixed_calls (w : World) (hw : What w) : Calls Tryd.prog 4 #[] w fun e w' => e = .returned (.bool true) ∧ Upd No w w' := by
  obtain ⟨f1, f2, f3, f4⟩ := fixed_facts
  have F1 := Sec.mk f1
  have F2 := Sec.mk f2
  have F3 := Sec.mk f3
  have F4 := Sec.mk f4
  clear f1 f2 f3 f4
  have hok : TreeOk [(1, 0), (2, 1)] := WFT.ok (by
    have h1 := WFT.nil.add 1 0
    have h2 := h1.add 2 1
    rw [F1.out, F2.out] at h2
    exact h2)
  have HOK := Sec.mk hok
  clear hok
  go_enter Tryd.func4, Tryd.ntmps4
  go_wp2_with (first
    | (go_at_call 11; refine (tnew_calls _).mono ?_; rintro e w1 ⟨bt, bm, rfl, ht1, hbt, hbm, hu1⟩)
    | (go_at_call 12; first
       | (refine (add_calls _ _ _ _ _ _ ht1 (by decide)).mono ?_; rintro e w2 ⟨rfl, ht2, hu2, _⟩; rw [F1.out] at ht2; rw [F1.out])
       | (refine (add_calls _ _ _ _ _ _ ht2 (by decide)).mono ?_; rintro e w3 ⟨rfl, ht3, hu3, _⟩; rw [F2.out] at ht3; rw [F2.out]; have hw3 := ((hw.upd hu1 (fun e => e)).upd (hu2.trans hu3 (fun _ _ e => e)) (by have := hw.lt; omega))))
    | (go_at_call 13; first
       | (refine (check_calls _ _ _ _ _ _ _ ht3 HOK.out hw3).mono ?_; rintro e w4 ⟨rfl, hu4⟩; rw [F3.out]; have ht4 := ht3.upd hu4 (fun e => e) (fun e => e); have hw4 := hw3.upd hu4 (fun e => e); clear ht3)
       | (refine (check_calls _ _ _ _ _ _ _ ht4 HOK.out hw4).mono ?_; rintro e w5 ⟨rfl, hu5⟩; rw [F4.out])))
  go_ret
  exact ⟨rfl, ((hu1.trans (hu2.trans hu3 (fun _ _ e => e)) (fun j hj e => by omega)).step hu4).step hu5⟩

set_option maxHeartbeats 1600000 in
set_option maxRecDepth 100000 in
theorem outlived_calls (w : World) (D : Nat → Prop) (v : Value) (l : List ActT) (kind : Int) (h : RS (Flat encAct) 3 D w v l) (hw : What w) (h0 : 0 ≤ kind) (h1 : kind ≤ 255) :
    Calls Tryd.prog 3 #[v, .int .u8 kind] w fun e w' => e = .returned (.bool true) ∧ Upd No w w' := by
  obtain ⟨a, c, rfl, hc, hm⟩ := h.form
  by_cases hs : l.length ≤ 60
  · go_enter Tryd.func3, Tryd.ntmps3
    have hwl := hw.lt
    have hwf := wft_play l
    have HWF := Sec.mk hwf
    clear hwf
    go_wp2_with (first
      | (go_at_call 5; refine (grown_calls _ _ _ _ h hs).mono ?_; rintro e w1 ⟨bt, bm, vx, rfl, ⟨ht1, _, hu1⟩, hbt, hbm⟩; have hw1 := hw.upd hu1 (fun e => e); have hlm := ht1.map.lt; have hlt := ht1.lt)
      | (go_at_call 6; refine (Walk_calls _ _ _ _ ht1 HWF.out.ok).mono ?_; rintro e w2 ⟨vw, rfl, hov, hu2⟩; obtain ⟨aw, cw, rfl, hrd⟩ := hov.read))
    obtain ⟨q, hq⟩ : ∃ q, q = 2 + kind % 2 := ⟨_, rfl⟩
    rw [← hq]
    have hk3 : q = 2 ∨ q = 3 := by omega
    clear hq
    have hsm : (walkT (playT l) 0).length ≤ 1000000000 := Nat.le_trans (HWF.out.ok 0 (.inl rfl)).2 ht1.small
    go_loopw [31] (fun i wr => ∃ k : Nat, k ≤ (walkT (playT l) 0).length ∧ i = .int .i64 k ∧ TreeAt wr bt bm (playT l) ∧ Upd (fun j => j = bm) w2 wr) (fun i _ => (walkT (playT l) 0).length - (intOf i).toNat)
    case atStart => exact ⟨0, by omega, rfl, ht1.upd hu2 (fun e => e) (fun e => e), Upd.refl _ _⟩
    case round =>
      obtain ⟨k, hk, rfl, htr, hur⟩ := hrel
      by_cases hlt2 : k < (walkT (playT l) 0).length
      · obtain ⟨g, rfl, hg1, hg2, hcell⟩ := hrd.out (by omega)
        obtain ⟨x, hx⟩ : ∃ x, (walkT (playT l) 0)[k]? = some x := ⟨_, List.getElem?_eq_getElem hlt2⟩
        have hce := (hur.cell (p := ⟨g, k, none⟩) hg2 (show ¬ g = bm by omega)).trans (hcell k hlt2)
        rw [hx] at hce
        simp only [Option.getD_some] at hce
        have hmem := List.mem_of_getElem? hx
        have HM := Sec.mk hmem
        clear hcell hx hmem
        obtain ⟨L, hL⟩ : ∃ L, L = targetsT (playT l) q x := ⟨_, rfl⟩
        have hto := targets_ok HWF.out hk3 HM.out
        have hLl : L.length ≤ 1000000000 := by
          rw [hL]; unfold targetsT sortI; rw [List.length_mergeSort]
          exact Nat.le_trans (List.length_filter_le _ _) hsm
        have hLp : 1 ≤ L.length := by rw [hL]; exact hto.some_
        have hLs : Sec (q = 2 → L = [x]) := ⟨fun e => by rw [hL]; exact hto.same e⟩
        have HL := Sec.mk hL
        have HTO := Sec.mk hto
        have hwr := (hw1.upd hu2 (fun e => e)).upd hur (show ¬ 0 = bm by omega)
        clear hto hL
        have hq1 : (q == 1) = false := by rcases hk3 with rfl | rfl <;> rfl
        have HK3 := Sec.mk hk3
        clear hk3
        go_wp2_with (first
          | (go_at_call 7; refine (targets_calls _ _ _ _ _ _ htr HWF.out.ok hwr).mono ?_; rintro e w3 ⟨vt, rfl, hot, hu3⟩; rw [← HL.out] at hot; obtain ⟨at_, ct, rfl, hrt⟩ := hot.read; have ht3 := htr.upd hu3 (fun e => e) (fun e => e)))
        go_loopw [41] (fun i wz => ∃ j : Nat, j ≤ L.length ∧ i = .int .i64 j ∧ TreeAt wz bt bm (playT l) ∧ Upd (fun j => j = bm) w3 wz) (fun i _ => L.length - (intOf i).toNat)
        case atStart => exact ⟨0, by omega, rfl, ht3, Upd.refl _ _⟩
        case round =>
          obtain ⟨j, hj, rfl, htz, huz⟩ := hrel
          have hsz3 := hu3.size
          have hszr := hur.size
          have hszr := hu2.size
          by_cases hjl : j < L.length
          · obtain ⟨gt, rfl, hgt1, hgt2, hct⟩ := hrt.out (by omega)
            obtain ⟨y, hy⟩ : ∃ y, L[j]? = some y := ⟨_, List.getElem?_eq_getElem hjl⟩
            have hcy := (huz.cell (p := ⟨gt, j, none⟩) hgt2 (show ¬ gt = bm by omega)).trans (hct j hjl)
            rw [hy] at hcy
            simp only [Option.getD_some] at hcy
            have hye := HTO.out.each y (HL.out ▸ List.mem_of_getElem? hy)
            have HW := Sec.mk hye.1
            have hcs : (y != x) = false ∨ (y != x) = true ∧ Sec (remT (playT l) y = (playT l, 6)) := by
              by_cases e : y = x
              · exact .inl (by simp [e])
              · exact .inr ⟨by simpa using e, ⟨hye.2.resolve_left e⟩⟩
            clear hct hy hye
            rcases hcs with hne | ⟨hne, HR⟩
            · go_wp2_with (first
                | (go_at_call 8; refine (within_calls _ _ _ _ _ _ htz HWF.out.ok).mono ?_; rintro e w4 ⟨rfl, hu4⟩; rw [HW.out]; have ht4 := htz.upd hu4 (fun e => e) (fun e => e))
                | go_in)
              go_roundw
              case rel => exact ⟨j + 1, by omega, by go_num, ht4, huz.trans hu4 (fun _ _ e => e.elim)⟩
              case measure => simp [intOf]; omega
            · go_wp2_with (first
                | (go_at_call 8; refine (within_calls _ _ _ _ _ _ htz HWF.out.ok).mono ?_; rintro e w4 ⟨rfl, hu4⟩; rw [HW.out]; have ht4 := htz.upd hu4 (fun e => e) (fun e => e))
                | (go_at_call 9; refine (rem_calls _ _ _ _ _ ht4).mono ?_; rintro e w5 ⟨rfl, ht5, hu5⟩; rw [HR.out] at ht5; rw [HR.out])
                | go_in)
              go_roundw
              case rel => exact ⟨j + 1, by omega, by go_num, ht5, (huz.trans hu4 (fun _ _ e => e.elim)).step hu5⟩
              case measure => simp [intOf]; omega
          · have hwz := (hwr.upd hu3 (fun e => e)).upd huz (show ¬ 0 = bm by omega)
            have HC := Sec.mk HTO.out.counted
            rcases HK3.out with rfl | rfl
            · have e2 := hLs.out rfl
              subst e2
              obtain ⟨gt, rfl, hgt1, hgt2, hct⟩ := hrt.out (by omega)
              have hc0 := (huz.cell (p := ⟨gt, 0, none⟩) hgt2 (show ¬ gt = bm by omega)).trans (hct 0 (by simp))
              simp only [List.getElem?_cons_zero, Option.getD_some] at hc0
              clear hct
              go_wp2_with (first
                | (go_at_call 7; refine (targets_calls _ _ _ _ _ _ htz HWF.out.ok hwz).mono ?_; rintro e w4 ⟨v4, rfl, ho4, hu4⟩; obtain ⟨a4, c4, rfl, _⟩ := ho4.read; rw [HC.out]; clear ho4; have ht4 := htz.upd hu4 (fun e => e) (fun e => e))
                | (go_at_call 6; refine (Walk_calls _ _ _ _ ht4 HWF.out.ok).mono ?_; rintro e w5 ⟨v5, rfl, ho5, hu5⟩; obtain ⟨a5, c5, rfl, _⟩ := ho5.read; clear ho5; have ht5 := ht4.upd hu5 (fun e => e) (fun e => e)))
              go_roundw
              case rel => exact ⟨k + 1, by omega, by go_num, ht5, (((hur.trans hu3 (fun _ _ e => e.elim)).step huz).trans hu4 (fun _ _ e => e.elim)).trans hu5 (fun _ _ e => e.elim)⟩
              case measure => simp [intOf]; omega
            · go_wp2_with (first
                | (go_at_call 7; refine (targets_calls _ _ _ _ _ _ htz HWF.out.ok hwz).mono ?_; rintro e w4 ⟨v4, rfl, ho4, hu4⟩; obtain ⟨a4, c4, rfl, _⟩ := ho4.read; rw [HC.out]; clear ho4; have ht4 := htz.upd hu4 (fun e => e) (fun e => e))
                | (go_at_call 6; refine (Walk_calls _ _ _ _ ht4 HWF.out.ok).mono ?_; rintro e w5 ⟨v5, rfl, ho5, hu5⟩; obtain ⟨a5, c5, rfl, _⟩ := ho5.read; clear ho5; have ht5 := ht4.upd hu5 (fun e => e) (fun e => e)))
              go_roundw
              case rel => exact ⟨k + 1, by omega, by go_num, ht5, (((hur.trans hu3 (fun _ _ e => e.elim)).step huz).trans hu4 (fun _ _ e => e.elim)).trans hu5 (fun _ _ e => e.elim)⟩
              case measure => simp [intOf]; omega
      · go_wp2_with (go_at_call 4; refine (fixed_calls _ ((hw1.upd hu2 (fun e => e)).upd hur (by omega))).mono ?_; rintro e w3 ⟨rfl, hu3⟩)
        go_ret
        exact ⟨rfl, ((hu1.step hu2).trans hur (fun j hj e => by omega)).step hu3⟩
  · go_enter Tryd.func3, Tryd.ntmps3
    go_wp2_with (go_at_call 4; refine (fixed_calls _ hw).mono ?_; rintro e w1 ⟨rfl, hu1⟩)
    go_ret
    exact ⟨rfl, hu1⟩
end Go.Proofs.YtkfnaahkfogcoaaDoor
