/- Who is within whom, and package annot. -/
import Derived.Test.YtkfnaahkfogcoaaDoorColl
import Derived.Laws.EntriesVeiled
namespace Go.Proofs.YtkfnaahkfogcoaaDoor
open Go.RowKit

def withinT (T : List (Int × Int)) (id of_ : Int) : Bool :=
  hasT T id && hasT T of_ && decide ((ivalT T of_).1 ≤ (ivalT T id).1) && decide ((ivalT T id).1 < (ivalT T of_).1 + (ivalT T of_).2)

theorem idxFrom_le (x : Int) : ∀ (zs : List Int) (i : Nat), Lib.idxFrom zs x i = -1 ∨ (0 ≤ Lib.idxFrom zs x i ∧ Lib.idxFrom zs x i ≤ i + zs.length)
  | [], i => .inl rfl
  | z :: zs, i => by
    unfold Lib.idxFrom
    split
    · right; simp; omega
    · rcases idxFrom_le x zs (i + 1) with h | h
      · exact .inl h
      · right; simp at h ⊢; omega
theorem ival_bounds (T : List (Int × Int)) (id : Int) (hok : TreeOk T) : -1 ≤ (ivalT T id).1 ∧ (ivalT T id).1 ≤ T.length ∧ 0 ≤ (ivalT T id).2 ∧ (ivalT T id).2 ≤ T.length + 1 := by
  unfold ivalT
  split
  · rename_i h
    have h1 := idxFrom_le id (walkT T 0) 0
    have h2 := (hok 0 (.inl rfl)).2
    have h3 := (hok id (.inr h)).2
    unfold walkT at h1 ⊢
    unfold Lib.idxOf
    simp at h1 ⊢
    omega
  · simp; omega

set_option maxHeartbeats 800000 in
theorem within_calls (w : World) (bt bm : Nat) (T : List (Int × Int)) (id of_ : Int) (ht : TreeAt w bt bm T) (hok : TreeOk T) :
    Calls Tryd.prog 8 #[.pointer (some ⟨bt, 0, none⟩), .int .i64 id, .int .i64 of_] w fun e w' => e = .returned (.bool (withinT T id of_)) ∧ Upd No w w' := by
  have hsm := ht.small
  obtain ⟨a1, a2, a3, a4⟩ := ival_bounds T id hok
  obtain ⟨b1, b2, b3, b4⟩ := ival_bounds T of_ hok
  have hw : withinT T id of_ = (hasT T id && hasT T of_ && decide ((ivalT T of_).1 ≤ (ivalT T id).1) && decide ((ivalT T id).1 < (ivalT T of_).1 + (ivalT T of_).2)) := rfl
  rw [hw]
  clear hw
  generalize hI : ivalT T id = I at *
  generalize hO : ivalT T of_ = J at *
  obtain ⟨i1, i2⟩ := I
  obtain ⟨j1, j2⟩ := J
  simp only at a1 a2 a3 a4 b1 b2 b3 b4
  have HI := Sec.mk hI
  have HO := Sec.mk hO
  clear hI hO
  go_enter Tryd.func8, Tryd.ntmps8
  go_wp2_with fail
  refine (interval_calls _ _ _ _ _ ht hok).mono ?_
  rintro e w1 ⟨rfl, hu1⟩
  rw [HI.out]
  have ht1 := ht.upd (hu1.alloc (.cells #[.int .i64 i1, .int .i64 i2] 50)) (fun e => e) (fun e => e)
  go_wp2_with fail
  refine (interval_calls _ _ _ _ _ ht1 hok).mono ?_
  rintro e w2 ⟨rfl, hu2⟩
  rw [HO.out]
  have hb := (hu2.block w1.heap.size (by simp) (fun e => e)).trans (heap_alloc_new w1 _)
  obtain ⟨q0, q1, f0, f1⟩ := two_cells hb
  have hlt := lt_of_block hb
  have HB := Sec.mk hb
  clear hb
  cases e1 : hasT T id with
  | false =>
    have HF : Sec ((hasT T id && hasT T of_ && decide (j1 ≤ i1) && decide (i1 < j1 + j2)) = false) := ⟨by simp [e1]⟩
    clear e1
    go_wp2
    go_ret
    exact ⟨(congrArg (fun b => Ending.returned (Value.bool b)) HF.out).symm, (hu1.alloc _).step (hu2.alloc _)⟩
  | true =>
    cases e2 : hasT T of_ with
    | false =>
      have HF : Sec ((hasT T id && hasT T of_ && decide (j1 ≤ i1) && decide (i1 < j1 + j2)) = false) := ⟨by simp [e2]⟩
      clear e1 e2
      go_wp2
      go_ret
      exact ⟨(congrArg (fun b => Ending.returned (Value.bool b)) HF.out).symm, (hu1.alloc _).step (hu2.alloc _)⟩
    | true =>
      cases e3 : decide (j1 ≤ i1) with
      | false =>
        have HF : Sec ((hasT T id && hasT T of_ && decide (j1 ≤ i1) && decide (i1 < j1 + j2)) = false) := ⟨by rw [e3]; simp⟩
        clear e1 e2
        go_wp2
        go_ret
        exact ⟨(congrArg (fun b => Ending.returned (Value.bool b)) HF.out).symm, (hu1.alloc _).step (hu2.alloc _)⟩
      | true =>
        have HF : Sec ((hasT T id && hasT T of_ && decide (j1 ≤ i1) && decide (i1 < j1 + j2)) = decide (i1 < j1 + j2)) := ⟨by rw [e1, e2, e3]; simp⟩
        clear e1 e2
        go_wp2
        go_ret
        exact ⟨(congrArg (fun b => Ending.returned (Value.bool b)) HF.out).symm, (hu1.alloc _).step (hu2.alloc _)⟩

/-- The table of kinds stands where it was laid. -/
structure What (w : World) : Prop where
  lt : 0 < w.heap.size
  c0 : w.cell? ⟨0, 0, none⟩ = some (.int .i64 0)
  c1 : w.cell? ⟨0, 1, none⟩ = some (.int .i64 1)
  c2 : w.cell? ⟨0, 2, none⟩ = some (.int .i64 1)
  c3 : w.cell? ⟨0, 3, none⟩ = some (.int .i64 1)
theorem What.upd {S : Nat → Prop} {w w' : World} (h : What w) (hu : Upd S w w') (hs : ¬ S 0) : What w' :=
  ⟨Nat.lt_of_lt_of_le h.lt hu.size, (hu.cell (p := ⟨0, 0, none⟩) h.lt hs).trans h.c0, (hu.cell (p := ⟨0, 1, none⟩) h.lt hs).trans h.c1, (hu.cell (p := ⟨0, 2, none⟩) h.lt hs).trans h.c2, (hu.cell (p := ⟨0, 3, none⟩) h.lt hs).trans h.c3⟩

def ptrKind (k : Int) : Bool := decide (1 ≤ k ∧ k ≤ 3)
theorem pointer_calls (w : World) (k : Int) (hw : What w) :
    Calls Tryd.prog 22 #[.int .i64 k] w fun e w' => e = .returned (.bool (ptrKind k)) ∧ w = w' := by
  obtain ⟨hl, c0, c1, c2, c3⟩ := hw
  by_cases h1 : k < 0
  · have hr : ptrKind k = false := by simp [ptrKind]; omega
    rw [hr]
    have hd : decide (k < 0) = true := by simpa using h1
    go_enter Tryd.func22, Tryd.ntmps22
    go_wp2
    go_ret
    exact ⟨rfl, rfl⟩
  by_cases h2 : 4 ≤ k
  · have hr : ptrKind k = false := by simp [ptrKind]; omega
    rw [hr]
    have hd : decide (k < 0) = false := by simpa using h1
    have hd2 : decide (4 ≤ k) = true := by simpa using h2
    go_enter Tryd.func22, Tryd.ntmps22
    go_wp2
    go_ret
    exact ⟨rfl, rfl⟩
  obtain rfl | rfl | rfl | rfl : k = 0 ∨ k = 1 ∨ k = 2 ∨ k = 3 := by omega
  all_goals
    go_enter Tryd.func22, Tryd.ntmps22
    go_wp2
    go_ret
    exact ⟨rfl, rfl⟩

set_option maxRecDepth 100000 in
theorem rules_calls (w : World) : Calls Tryd.prog 23 #[] w fun e w' =>
    e = .returned (.agg #[.nilFunc, .func (.func 32) #[] #[], .func (.func 33) #[] #[], .func (.func 34) #[] #[]]) ∧ Upd No w w' := by
  go_enter Tryd.func23, Tryd.ntmps23
  go_wp2
  exact bodyPost_ret (v := (.agg #[.nilFunc, .func (.func 32) #[] #[], .func (.func 33) #[] #[], .func (.func 34) #[] #[]])) (by simp [results, Tryd.results23, go_sem]) rfl ⟨rfl, (Upd.refl No w).alloc _⟩
theorem rules_at1 : ∀ w, (Instr.index 61 (.agg #[.nilFunc, .func (.func 32) #[] #[], .func (.func 33) #[] #[], .func (.func 34) #[] #[]]) (.int .i64 1)).run Tryd.prog w = .ok (.agg #[.func (.func 32) #[] #[]]) w := fun _ => by kernel_rfl
theorem rules_at2 : ∀ w, (Instr.index 61 (.agg #[.nilFunc, .func (.func 32) #[] #[], .func (.func 33) #[] #[], .func (.func 34) #[] #[]]) (.int .i64 2)).run Tryd.prog w = .ok (.agg #[.func (.func 33) #[] #[]]) w := fun _ => by kernel_rfl
theorem rules_at3 : ∀ w, (Instr.index 61 (.agg #[.nilFunc, .func (.func 32) #[] #[], .func (.func 33) #[] #[], .func (.func 34) #[] #[]]) (.int .i64 3)).run Tryd.prog w = .ok (.agg #[.func (.func 34) #[] #[]]) w := fun _ => by kernel_rfl

theorem rules_f1 : ∀ w, (Instr.field 60 (.agg #[.func (.func 32) #[] #[]]) 0).run Tryd.prog w = .ok (.func (.func 32) #[] #[]) w := fun _ => by kernel_rfl
theorem rules_f2 : ∀ w, (Instr.field 60 (.agg #[.func (.func 33) #[] #[]]) 0).run Tryd.prog w = .ok (.func (.func 33) #[] #[]) w := fun _ => by kernel_rfl
theorem rules_f3 : ∀ w, (Instr.field 60 (.agg #[.func (.func 34) #[] #[]]) 0).run Tryd.prog w = .ok (.func (.func 34) #[] #[]) w := fun _ => by kernel_rfl

def checkT (T : List (Int × Int)) (kind holder target : Int) : Int :=
  if ptrKind kind = false then 4 else if target = 0 then 0 else if hasT T holder = false ∨ hasT T target = false then 2
  else if kind = 1 then 0 else if kind = 2 then (if holder = target then 0 else 5) else if withinT T holder target = true then 0 else 5

set_option maxHeartbeats 800000 in
set_option maxRecDepth 100000 in
theorem check_calls (w : World) (bt bm : Nat) (T : List (Int × Int)) (kind holder target : Int) (ht : TreeAt w bt bm T) (hok : TreeOk T) (hw : What w) :
    Calls Tryd.prog 13 #[.pointer (some ⟨bt, 0, none⟩), .int .i64 kind, .int .i64 holder, .int .i64 target] w fun e w' => e = .returned (.int .i64 (checkT T kind holder target)) ∧ Upd No w w' := by
  have hlt := ht.lt
  cases h1 : ptrKind kind with
  | false =>
    have hr : checkT T kind holder target = 4 := by simp [checkT, h1]
    rw [hr]
    have H1 := Sec.mk h1
    clear h1
    go_enter Tryd.func13, Tryd.ntmps13
    go_wp2_with (go_at_call 22; refine (pointer_calls _ _ hw).mono ?_; rintro e w' ⟨rfl, rfl⟩; rw [H1.out])
    go_ret
    exact ⟨rfl, Upd.refl _ _⟩
  | true =>
    have hk : kind = 1 ∨ kind = 2 ∨ kind = 3 := by simp [ptrKind] at h1; omega
    have H1 := Sec.mk h1
    by_cases h2 : target = 0
    · have hr : checkT T kind holder target = 0 := by simp [checkT, h1, h2]
      rw [hr]
      subst h2
      clear h1
      go_enter Tryd.func13, Tryd.ntmps13
      go_wp2_with (go_at_call 22; refine (pointer_calls _ _ hw).mono ?_; rintro e w' ⟨rfl, rfl⟩; rw [H1.out])
      go_ret
      exact ⟨rfl, Upd.refl _ _⟩
    · have h2b : (target == 0) = false := by simpa using h2
      by_cases h3 : hasT T holder = false ∨ hasT T target = false
      · have hr : checkT T kind holder target = 2 := by simp [checkT, h1, h2, h3]
        rw [hr]
        clear h1 h2
        rcases hc : hasT T holder with _ | _
        · have HC := Sec.mk hc
          clear hc h3
          go_enter Tryd.func13, Tryd.ntmps13
          go_wp2_with (first | (go_at_call 22; refine (pointer_calls _ _ hw).mono ?_; rintro e w' ⟨rfl, rfl⟩; rw [H1.out]) | (go_at_call 20; refine (has_calls _ _ _ _ _ ht).mono ?_; rintro e w' ⟨rfl, rfl⟩; rw [HC.out]))
          go_ret
          exact ⟨rfl, Upd.refl _ _⟩
        · have HC := Sec.mk hc
          have HD : Sec (hasT T target = false) := ⟨by simpa [hc] using h3⟩
          clear hc h3
          go_enter Tryd.func13, Tryd.ntmps13
          go_wp2_with (first | (go_at_call 22; refine (pointer_calls _ _ hw).mono ?_; rintro e w' ⟨rfl, rfl⟩; rw [H1.out]) | (go_at_call 20; refine (has_calls _ _ _ _ _ ht).mono ?_; rintro e w' ⟨rfl, rfl⟩; first | rw [HD.out] | rw [HC.out]))
          go_ret
          exact ⟨rfl, Upd.refl _ _⟩
      · have h3a : hasT T holder = true := by cases h : hasT T holder <;> simp_all
        have h3b : hasT T target = true := by cases h : hasT T target <;> simp_all
        have HC := Sec.mk h3a
        have HD := Sec.mk h3b
        rcases hk with rfl | rfl | rfl
        · have hr : checkT T 1 holder target = 0 := by simp [checkT, h1, h2, h3a, h3b]
          rw [hr]
          have HW : Sec True := ⟨trivial⟩
          clear h1 h2 h3 h3a h3b
          have ri := rules_at1
          have rf := rules_f1
          go_enter Tryd.func13, Tryd.ntmps13
          go_wp2_with (first | (go_at_call 22; refine (pointer_calls _ _ hw).mono ?_; rintro e w' ⟨rfl, rfl⟩; rw [H1.out]) | (go_at_call 20; refine (has_calls _ _ _ _ _ ht).mono ?_; rintro e w' ⟨rfl, rfl⟩; first | rw [HD.out] | rw [HC.out]) | (go_at_call 23; refine (rules_calls _).mono ?_; rintro e w1 ⟨rfl, hu1⟩) | (go_at_call 8; refine (within_calls _ _ _ _ _ _ (ht.upd hu1 (fun e => e) (fun e => e)) hok).mono ?_; rintro e w2 ⟨rfl, hu2⟩; rw [HW.out]) | go_in)
          go_ret
          exact ⟨rfl, hu1⟩
        · have hr : checkT T 2 holder target = if holder = target then 0 else 5 := by simp [checkT, h1, h2, h3a, h3b]
          rw [hr]
          have HW : Sec True := ⟨trivial⟩
          clear h1 h2 h3 h3a h3b
          have ri := rules_at2
          have rf := rules_f2
          by_cases he : holder = target
          · rw [if_pos he]
            have hb : (holder == target) = true := by simpa using he
            clear he hr
            go_enter Tryd.func13, Tryd.ntmps13
            go_wp2_with (first | (go_at_call 22; refine (pointer_calls _ _ hw).mono ?_; rintro e w' ⟨rfl, rfl⟩; rw [H1.out]) | (go_at_call 20; refine (has_calls _ _ _ _ _ ht).mono ?_; rintro e w' ⟨rfl, rfl⟩; first | rw [HD.out] | rw [HC.out]) | (go_at_call 23; refine (rules_calls _).mono ?_; rintro e w1 ⟨rfl, hu1⟩) | (go_at_call 8; refine (within_calls _ _ _ _ _ _ (ht.upd hu1 (fun e => e) (fun e => e)) hok).mono ?_; rintro e w2 ⟨rfl, hu2⟩; rw [HW.out]) | go_in)
            go_ret
            exact ⟨rfl, hu1⟩
          · rw [if_neg he]
            have hb : (holder == target) = false := by simpa using he
            clear he hr
            go_enter Tryd.func13, Tryd.ntmps13
            go_wp2_with (first | (go_at_call 22; refine (pointer_calls _ _ hw).mono ?_; rintro e w' ⟨rfl, rfl⟩; rw [H1.out]) | (go_at_call 20; refine (has_calls _ _ _ _ _ ht).mono ?_; rintro e w' ⟨rfl, rfl⟩; first | rw [HD.out] | rw [HC.out]) | (go_at_call 23; refine (rules_calls _).mono ?_; rintro e w1 ⟨rfl, hu1⟩) | (go_at_call 8; refine (within_calls _ _ _ _ _ _ (ht.upd hu1 (fun e => e) (fun e => e)) hok).mono ?_; rintro e w2 ⟨rfl, hu2⟩; rw [HW.out]) | go_in)
            go_ret
            exact ⟨rfl, hu1⟩
        · have hr : checkT T 3 holder target = if withinT T holder target = true then 0 else 5 := by simp [checkT, h1, h2, h3a, h3b]
          rw [hr]
          clear h1 h2 h3 h3a h3b
          have ri := rules_at3
          have rf := rules_f3
          cases hwi : withinT T holder target with
          | true =>
            have HW := Sec.mk hwi
            clear hwi hr
            go_enter Tryd.func13, Tryd.ntmps13
            go_wp2_with (first | (go_at_call 22; refine (pointer_calls _ _ hw).mono ?_; rintro e w' ⟨rfl, rfl⟩; rw [H1.out]) | (go_at_call 20; refine (has_calls _ _ _ _ _ ht).mono ?_; rintro e w' ⟨rfl, rfl⟩; first | rw [HD.out] | rw [HC.out]) | (go_at_call 23; refine (rules_calls _).mono ?_; rintro e w1 ⟨rfl, hu1⟩) | (go_at_call 8; refine (within_calls _ _ _ _ _ _ (ht.upd hu1 (fun e => e) (fun e => e)) hok).mono ?_; rintro e w2 ⟨rfl, hu2⟩; rw [HW.out]) | go_in)
            go_ret
            exact ⟨rfl, hu1.step hu2⟩
          | false =>
            have HW := Sec.mk hwi
            clear hwi hr
            go_enter Tryd.func13, Tryd.ntmps13
            go_wp2_with (first | (go_at_call 22; refine (pointer_calls _ _ hw).mono ?_; rintro e w' ⟨rfl, rfl⟩; rw [H1.out]) | (go_at_call 20; refine (has_calls _ _ _ _ _ ht).mono ?_; rintro e w' ⟨rfl, rfl⟩; first | rw [HD.out] | rw [HC.out]) | (go_at_call 23; refine (rules_calls _).mono ?_; rintro e w1 ⟨rfl, hu1⟩) | (go_at_call 8; refine (within_calls _ _ _ _ _ _ (ht.upd hu1 (fun e => e) (fun e => e)) hok).mono ?_; rintro e w2 ⟨rfl, hu2⟩; rw [HW.out]) | go_in)
            go_ret
            exact ⟨rfl, hu1.step hu2⟩
end Go.Proofs.YtkfnaahkfogcoaaDoor
