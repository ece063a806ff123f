/- The document's tree: rows of a number and a parent. -/
import Derived.Test.YtkfnaahkfogcoaaDoorRep
namespace Go.Proofs.YtkfnaahkfogcoaaDoor
open Go.RowKit

def encRow (r : Int × Int) : List Value := [.int .i64 r.1, .int .i64 r.2]
abbrev RRow : Rep (Int × Int) := Flat encRow
theorem good_row : Good RRow 2 := good_flat (fun _ => rfl) (fun x u hu => by simp [encRow] at hu; rcases hu with rfl | rfl <;> rfl)
theorem RRow.at_ {D : Nat → Prop} {w : World} {a : Option Addr} {n c : Nat} {X : List (Int × Int)} (h : RS RRow 2 D w (.slice a n c) X) {i : Nat} (hi : i < X.length) :
    ∃ b off x, a = some ⟨b, off, none⟩ ∧ b < w.heap.size ∧ X[i]? = some x ∧ w.cell? ⟨b, off + i * 2, none⟩ = some (.int .i64 x.1) ∧ w.cell? ⟨b, off + i * 2 + 1, none⟩ = some (.int .i64 x.2) := by
  obtain ⟨b, off, x, vs, h1, _, h2, h3, rfl, h4⟩ := h.at_ hi
  exact ⟨b, off, x, h1, h2, h3, h4 0 _ rfl, h4 1 _ rfl⟩

def has5 (X : List (Int × Int)) (id : Int) : Bool := X.any fun r => r.1 == id
def kids5 (X : List (Int × Int)) (id : Int) : List Int := (X.filter fun r => r.2 == id).map (·.1)
def add5 (X : List (Int × Int)) (id parent : Int) : List (Int × Int) × Int :=
  if id < 1 ∨ has5 X id = true then (X, 1) else if parent ≠ 0 ∧ has5 X parent = false then (X, 2)
  else ((X.takeWhile fun r => decide (r.1 < id)) ++ [(id, parent)] ++ X.dropWhile fun r => decide (r.1 < id), 0)
def rem5 (X : List (Int × Int)) (id : Int) : List (Int × Int) × Int :=
  if has5 X id = false then (X, 2) else if kids5 X id ≠ [] then (X, 6) else (X.filter fun r => r.1 != id, 0)

theorem has5_calls (w : World) (D : Nat → Prop) (v : Value) (X : List (Int × Int)) (id : Int) (h : RS RRow 2 D w v X) :
    Calls Tryd.prog 24 #[v, .int .i64 id] w fun e w' => e = .returned (.bool (has5 X id)) ∧ w' = w := by
  obtain ⟨a, c, rfl, hc, hm⟩ := h.form
  go_enter Tryd.func24, Tryd.ntmps24
  go_wp2
  go_loopw [5] (fun i wr => ∃ k : Nat, k ≤ X.length ∧ i = .int .i64 k ∧ Sec (∀ x ∈ X.take k, (x.1 == id) = false) ∧ wr = w) (fun i _ => X.length - (intOf i).toNat)
  case atStart => exact ⟨0, by omega, rfl, ⟨by simp⟩, rfl⟩
  case round =>
    obtain ⟨k, hk, rfl, HB, rfl⟩ := hrel
    by_cases hlt : k < X.length
    · obtain ⟨b, off, x, rfl, hb, hx, hc1, hc2⟩ := RRow.at_ h hlt
      have HX := Sec.mk hx
      clear hx
      cases hq : (x.1 == id) with
      | true =>
        go_wp2
        go_ret
        refine ⟨?_, rfl⟩
        have : has5 X id = true := List.any_eq_true.2 ⟨x, List.mem_of_getElem? HX.out, hq⟩
        rw [this]; rfl
      | false =>
        have HQ := Sec.mk hq
        go_wp2
        go_roundw
        case rel =>
          refine ⟨k + 1, by omega, by go_num, ⟨fun y hy => ?_⟩, trivial⟩
          rw [List.take_add_one, HX.out] at hy
          rcases List.mem_append.1 hy with hy | hy
          · exact HB.out y hy
          · simp at hy; subst hy; exact HQ.out
        case measure => simp [intOf]; omega
    · have hkn : k = X.length := by omega
      have HN := Sec.mk hkn
      clear hkn
      go_wp2
      go_ret
      refine ⟨?_, rfl⟩
      have : has5 X id = false := by
        have := HB.out
        rw [HN.out, List.take_length] at this
        exact List.any_eq_false.2 (fun y hy => by simp [this y hy])
      rw [this]; rfl

theorem OwnI.made (w : World) (base : Nat) (hb : base ≤ w.heap.size) : OwnI (w.alloc (.cells #[] 3)) base (.slice (some ⟨w.heap.size, 0, none⟩) 0 0) [] := by
  simpa [OwnI] using World.ownsRow_made (base := base) (e := 3) (size := 1) w #[] 0 hb (by simp) (by simp)
theorem upd_world {w w' : World} (h : Upd No w w') {D : Nat → Prop} {v : Value} {X : List (Int × Int)} (hx : RS RRow 2 D w v X) : RS RRow 2 D w' v X := hx.upd good_row h (fun _ _ e => e)

theorem kids5_calls (w : World) (D : Nat → Prop) (v : Value) (X : List (Int × Int)) (id : Int) (h : RS RRow 2 D w v X) (hs : X.length ≤ 1000000000) :
    Calls Tryd.prog 25 #[v, .int .i64 id] w fun e w' => ∃ v', e = .returned v' ∧ OwnI w' w.heap.size v' (kids5 X id) ∧ Upd No w w' := by
  obtain ⟨a, c, rfl, hc, hm⟩ := h.form
  go_enter Tryd.func25, Tryd.ntmps25
  go_wp2
  go_loopw [5, 6] (fun v5 i wr => ∃ k : Nat, k ≤ X.length ∧ i = .int .i64 k ∧ OwnI wr w.heap.size v5 (kids5 (X.take k) id) ∧ Upd No w wr) (fun _ i _ => X.length - (intOf i).toNat)
  case atStart => exact ⟨0, by omega, rfl, OwnI.made w _ (Nat.le_refl _), (Upd.refl _ _).alloc _⟩
  case round =>
    obtain ⟨k, hk, rfl, hov, hur⟩ := hrel
    have h' := upd_world hur h
    by_cases hlt : k < X.length
    · obtain ⟨b, off, x, rfl, hb, hx, hc1, hc2⟩ := RRow.at_ h' hlt
      have e1 : X.take (k + 1) = X.take k ++ [x] := by rw [List.take_add_one, hx]; rfl
      have HX := Sec.mk hx
      have HE := Sec.mk e1
      have hpl : (kids5 (X.take k) id).length ≤ 1000000000000 := by
        have h1 := List.length_filter_le (fun r : Int × Int => r.2 == id) (X.take k)
        have h2 := List.length_take_le k X
        unfold kids5
        rw [List.length_map]
        omega
      have HP := Sec.mk hpl
      clear hx e1 hpl
      cases hq : (x.2 == id) with
      | true =>
        have HQ := Sec.mk hq
        go_wp2_with (at_builtin; refine app_int (W := wr) w.heap.size rfl (.tmp 21) (.tmp 27) rfl _ _ x.1 rfl rfl hov hur.size HP.out (fun v1 w3 ho3 hu3 _ => ?_))
        go_roundw
        case rel =>
          refine ⟨k + 1, by omega, by go_num, ?_, hur.trans hu3 (fun j hj e => ?_)⟩
          · rw [HE.out]; unfold kids5; rw [List.filter_append]
            simpa [HQ.out, kids5] using ho3
          · have := own_new hov j e.symm; omega
        case measure => simp [intOf]; omega
      | false =>
        have HQ := Sec.mk hq
        go_wp2
        go_roundw
        case rel =>
          refine ⟨k + 1, by omega, by go_num, ?_, hur⟩
          rw [HE.out]; unfold kids5; rw [List.filter_append]
          simpa [HQ.out, kids5] using hov
        case measure => simp [intOf]; omega
    · have hkn : k = X.length := by omega
      have HN := Sec.mk hkn
      clear hkn
      go_wp2
      go_ret
      refine ⟨_, rfl, ?_, hur⟩
      have := hov
      rw [HN.out, List.take_length] at this
      exact this

abbrev OwnR (w : World) (base : Nat) (v : Value) (xs : List (Int × Int)) : Prop := OwnS RRow 66 2 (fun _ => False) w base v xs
theorem OwnR.upd {w w' : World} {base : Nat} {v : Value} {X : List (Int × Int)} (h : OwnR w base v X) (hu : Upd No w w') : OwnR w' base v X := OwnS.upd good_row h hu (fun _ _ e => e) (fun _ _ e => e)
theorem info_row : (Tryd.prog.info? 66).map (fun i => (i.zero, i.size, i.bytes)) = some (some (.agg #[.int .i64 0, .int .i64 0]), 2, 16) := by kernel_rfl
/-- append(s, r) on rows. -/
theorem app_row {ops : Array Oper} {rest : List Oper} {o : Oper} {a : Act} {Q : Exit → Act → World → Prop} {W : World} (base : Nat) (hgd : o.guard = none) (s x : Operand)
    (ho : o.op = .call { callee := .builtin .append, args := #[s, x], argTypes := #[25, 25] })
    (v : Value) (xs : List (Int × Int)) (y : Int × Int) (hs : a.eval s = v) (hx : a.eval x = .slice (some ⟨W.heap.size, 0, none⟩) 1 1)
    (HO : OwnR W base v xs) (hbase : base ≤ W.heap.size) (hl : xs.length ≤ 1000000000000)
    (h : ∀ v1 w1, OwnR w1 base v1 (xs ++ [y]) → Upd (fun k => some k = v.ownBlock) W w1 → (∀ k, some k = v1.ownBlock → some k = v.ownBlock ∨ W.heap.size ≤ k) → wpList Tryd.prog ops Q rest (a.put o.dst v1) w1) :
    wpList Tryd.prog ops Q (o :: rest) a (W.alloc (.cells #[.int .i64 y.1, .int .i64 y.2] 66)) :=
  appO (fun _ => False) base hgd s x 25 66 _ 2 16 good_row ho Tryd.underlying25 info_row rfl (by decide) (by decide) v xs #[.int .i64 y.1, .int .i64 y.2] y hs hx rfl HO hbase (by omega) (fun _ e => e.elim) h

set_option maxHeartbeats 800000 in
theorem rem5_calls (w : World) (D : Nat → Prop) (v : Value) (X : List (Int × Int)) (id : Int) (h : RS RRow 2 D w v X) (hs : X.length ≤ 1000000000) :
    Calls Tryd.prog 14 #[v, .int .i64 id] w fun e w' => ∃ v', e = .returned (.tuple #[v', .int .i64 (rem5 X id).2]) ∧ (v' = v ∧ (rem5 X id).1 = X ∨ OwnR w' w.heap.size v' (rem5 X id).1) ∧ Upd No w w' := by
  obtain ⟨a, c, rfl, hc, hm⟩ := h.form
  go_enter Tryd.func14, Tryd.ntmps14
  cases hh : has5 X id with
  | false =>
    have HH := Sec.mk hh
    clear hh
    go_wp2_with (go_at_call 24; refine (has5_calls _ _ _ _ _ h).mono ?_; rintro e w1 ⟨rfl, rfl⟩; rw [HH.out])
    have e1 : rem5 X id = (X, 2) := by unfold rem5; rw [if_pos HH.out]
    rw [e1]
    exact bodyPost_ret (v := .tuple #[.slice a X.length c, .int .i64 2]) (by simp [results, Tryd.results14, go_sem]) rfl ⟨_, rfl, .inl ⟨rfl, rfl⟩, Upd.refl _ _⟩
  | true =>
    have HH := Sec.mk hh
    clear hh
    by_cases hk : kids5 X id = []
    · have HK := Sec.mk hk
      clear hk
      go_wp2_with (first
        | (go_at_call 24; refine (has5_calls _ _ _ _ _ h).mono ?_; rintro e w1 ⟨rfl, rfl⟩; rw [HH.out])
        | (go_at_call 25; refine (kids5_calls _ _ _ _ _ h hs).mono ?_; rintro e w2 ⟨vk, rfl, hok, hu2⟩; rw [HK.out] at hok; obtain ⟨ak, ck, rfl⟩ := hok.nil))
      go_loopw [6, 7] (fun v5 i wr => ∃ k : Nat, k ≤ X.length ∧ i = .int .i64 k ∧ OwnR wr w1.heap.size v5 ((X.take k).filter fun r => r.1 != id) ∧ Upd No w1 wr) (fun _ i _ => X.length - (intOf i).toNat)
      case atStart => exact ⟨0, by omega, rfl, OwnS.made _ _ _ _ w2 _ hu2.size, hu2.alloc _⟩
      case round =>
        obtain ⟨k, hk, rfl, hov, hur⟩ := hrel
        have h' := upd_world hur h
        by_cases hlt : k < X.length
        · obtain ⟨b, off, x, rfl, hb, hx, hc1, hc2⟩ := RRow.at_ h' hlt
          have e1 : X.take (k + 1) = X.take k ++ [x] := by rw [List.take_add_one, hx]; rfl
          have HX := Sec.mk hx
          have HE := Sec.mk e1
          have hpl : ((X.take k).filter fun r => r.1 != id).length ≤ 1000000000000 := by
            have h1 := List.length_filter_le (fun r : Int × Int => r.1 != id) (X.take k)
            have h2 := List.length_take_le k X
            omega
          have HP := Sec.mk hpl
          clear hx e1 hpl
          cases hq : (x.1 != id) with
          | true =>
            have HQ := Sec.mk hq
            go_wp2_with (at_builtin; refine app_row (W := wr) w1.heap.size rfl (.tmp 33) (.tmp 38) rfl _ _ x rfl rfl hov hur.size HP.out (fun v1 w3 ho3 hu3 _ => ?_))
            go_roundw
            case rel =>
              refine ⟨k + 1, by omega, by go_num, ?_, hur.trans hu3 (fun j hj e => ?_)⟩
              · rw [HE.out, List.filter_append]
                simpa [HQ.out] using ho3
              · have := hov.new j e.symm; omega
            case measure => simp [intOf]; omega
          | false =>
            have HQ := Sec.mk hq
            go_wp2
            go_roundw
            case rel =>
              refine ⟨k + 1, by omega, by go_num, ?_, hur⟩
              rw [HE.out, List.filter_append]
              simpa [HQ.out] using hov
            case measure => simp [intOf]; omega
        · have hkn : k = X.length := by omega
          have HN := Sec.mk hkn
          clear hkn
          go_wp2
          have e1 : rem5 X id = (X.filter fun r => r.1 != id, 0) := by unfold rem5; rw [if_neg (by rw [HH.out]; simp), if_neg (by rw [HK.out]; simp)]
          have := hov
          rw [HN.out, List.take_length] at this
          rw [e1]
          exact bodyPost_ret (v := .tuple #[u6, .int .i64 0]) (by simp [results, Tryd.results14, go_sem]) rfl ⟨_, rfl, .inr this, hur⟩
    · have HK := Sec.mk hk
      clear hk
      go_wp2_with (first
        | (go_at_call 24; refine (has5_calls _ _ _ _ _ h).mono ?_; rintro e w1 ⟨rfl, rfl⟩; rw [HH.out])
        | (go_at_call 25; refine (kids5_calls _ _ _ _ _ h hs).mono ?_; rintro e w2 ⟨vk, rfl, hok, hu2⟩; obtain ⟨ak, ck, rfl, hrd⟩ := hok.read; have hp : 0 < (kids5 X id).length := List.length_pos_iff.2 HK.out; clear hok))
      have e1 : rem5 X id = (X, 6) := by unfold rem5; rw [if_neg (by rw [HH.out]; simp), if_pos HK.out]
      rw [e1]
      exact bodyPost_ret (v := .tuple #[.slice a X.length c, .int .i64 6]) (by simp [results, Tryd.results14, go_sem]) rfl ⟨_, rfl, .inl ⟨rfl, rfl⟩, hu2⟩
theorem add_split : ∀ (X : List (Int × Int)) (id : Int) (k : Nat), k ≤ X.length → (∀ x ∈ X.take k, decide (x.1 < id) = true) → (∀ x, X[k]? = some x → decide (x.1 < id) = false) → X.takeWhile (fun r => decide (r.1 < id)) = X.take k ∧ X.dropWhile (fun r => decide (r.1 < id)) = X.drop k
  | [], id, k, _, _, _ => by simp
  | x :: X, id, 0, _, _, h => by
    have := h x rfl
    simp only [List.takeWhile_cons, List.dropWhile_cons, this]
    simp
  | x :: X, id, k + 1, hk, h1, h2 => by
    have hx := h1 x (by simp)
    obtain ⟨e1, e2⟩ := add_split X id k (by simpa using hk) (fun y hy => h1 y (by simp [hy])) (fun y hy => h2 y (by simpa using hy))
    simp only [List.takeWhile_cons, List.dropWhile_cons, hx]
    simp [e1, e2]

set_option maxHeartbeats 1600000 in
set_option maxRecDepth 100000 in
theorem add5_calls (w : World) (D : Nat → Prop) (v : Value) (X : List (Int × Int)) (id parent : Int) (h : RS RRow 2 D w v X) (hs : X.length ≤ 1000000000) :
    Calls Tryd.prog 15 #[v, .int .i64 id, .int .i64 parent] w fun e w' => ∃ v', e = .returned (.tuple #[v', .int .i64 (add5 X id parent).2]) ∧ (v' = v ∧ (add5 X id parent).1 = X ∨ OwnR w' w.heap.size v' (add5 X id parent).1) ∧ Upd No w w' := by
  obtain ⟨a, c, rfl, hc, hm⟩ := h.form
  go_enter Tryd.func15, Tryd.ntmps15
  cases hid : decide (id < 1) with
  | true =>
    have HI := Sec.mk hid
    go_wp2
    have e1 : add5 X id parent = (X, 1) := by unfold add5; rw [if_pos (.inl (by simpa using HI.out))]
    rw [e1]
    exact bodyPost_ret (v := .tuple #[.slice a X.length c, .int .i64 1]) (by simp [results, Tryd.results15, go_sem]) rfl ⟨_, rfl, .inl ⟨rfl, rfl⟩, Upd.refl _ _⟩
  | false =>
    have HI := Sec.mk hid
    cases hh : has5 X id with
    | true =>
      have HH := Sec.mk hh
      clear hh
      go_wp2_with (go_at_call 24; refine (has5_calls _ _ _ _ _ h).mono ?_; rintro e w1 ⟨rfl, rfl⟩; rw [HH.out])
      have e1 : add5 X id parent = (X, 1) := by unfold add5; rw [if_pos (.inr HH.out)]
      rw [e1]
      exact bodyPost_ret (v := .tuple #[.slice a X.length c, .int .i64 1]) (by simp [results, Tryd.results15, go_sem]) rfl ⟨_, rfl, .inl ⟨rfl, rfl⟩, Upd.refl _ _⟩
    | false =>
      have HH := Sec.mk hh
      have HN1 : Sec (¬ (id < 1 ∨ has5 X id = true)) := ⟨by rw [HH.out]; simpa using HI.out⟩
      clear hh
      have hmain : (parent != 0) = true ∧ Sec (has5 X parent = false) ∨ (parent != 0) = true ∧ Sec (has5 X parent = true) ∨ (parent != 0) = false ∧ Sec (has5 X id = false) := by
        cases h1 : (parent != 0) with
        | false => exact .inr (.inr ⟨rfl, HH⟩)
        | true => cases h2 : has5 X parent with
          | false => exact .inl ⟨rfl, ⟨rfl⟩⟩
          | true => exact .inr (.inl ⟨rfl, ⟨rfl⟩⟩)
      rcases hmain with ⟨hp, HP⟩ | ⟨hp, HP⟩ | ⟨hp, HP⟩
      · have HQ := Sec.mk hp
        go_wp2_with (go_at_call 24; refine (has5_calls _ _ _ _ _ h).mono ?_; rintro e w1 ⟨rfl, rfl⟩; first | rw [HH.out] | rw [HP.out])
        have e1 : add5 X id parent = (X, 2) := by unfold add5; rw [if_neg HN1.out, if_pos ⟨by simpa using HQ.out, HP.out⟩]
        rw [e1]
        exact bodyPost_ret (v := .tuple #[.slice a X.length c, .int .i64 2]) (by simp [results, Tryd.results15, go_sem]) rfl ⟨_, rfl, .inl ⟨rfl, rfl⟩, Upd.refl _ _⟩
      all_goals
        have e1 : Sec (add5 X id parent = ((X.takeWhile fun r => decide (r.1 < id)) ++ [(id, parent)] ++ X.dropWhile fun r => decide (r.1 < id), 0)) := ⟨by
          unfold add5; rw [if_neg HN1.out, if_neg]
          rintro ⟨h1, h2⟩
          first | (rw [HP.out] at h2; simp at h2; done) | (simp at hp; exact h1 hp)⟩
        go_wp2_with (go_at_call 24; refine (has5_calls _ _ _ _ _ h).mono ?_; rintro e w1 ⟨rfl, rfl⟩; first | rw [HH.out] | rw [HP.out])
        go_loopw [8, 9] (fun v5 i wr => ∃ k : Nat, k ≤ X.length ∧ i = .int .i64 k ∧ Sec (∀ x ∈ X.take k, decide (x.1 < id) = true) ∧ OwnR wr w1.heap.size v5 (X.take k) ∧ Upd No w1 wr) (fun _ i _ => X.length - (intOf i).toNat)
        case atStart => exact ⟨0, by omega, rfl, ⟨by simp⟩, OwnS.made _ _ _ _ w1 _ (Nat.le_refl _), (Upd.refl _ _).alloc _⟩
        case round =>
          obtain ⟨k, hk, rfl, HB, hov, hur⟩ := hrel
          have h' := upd_world hur h
          have hcs : (∃ b off x, a = some ⟨b, off, none⟩ ∧ k < X.length ∧ Sec (X[k]? = some x) ∧ b < wr.heap.size ∧ wr.cell? ⟨b, off + k * 2, none⟩ = some (.int .i64 x.1) ∧ wr.cell? ⟨b, off + k * 2 + 1, none⟩ = some (.int .i64 x.2) ∧ decide (x.1 < id) = true) ∨
              (∃ b off x, a = some ⟨b, off, none⟩ ∧ k < X.length ∧ Sec (X.takeWhile (fun r => decide (r.1 < id)) = X.take k ∧ X.dropWhile (fun r => decide (r.1 < id)) = X.drop k) ∧ b < wr.heap.size ∧ wr.cell? ⟨b, off + k * 2, none⟩ = some (.int .i64 x) ∧ decide (x < id) = false) ∨
              (¬ k < X.length ∧ Sec (X.takeWhile (fun r => decide (r.1 < id)) = X.take k ∧ X.dropWhile (fun r => decide (r.1 < id)) = X.drop k)) := by
            by_cases hlt : k < X.length
            · obtain ⟨b, off, x, rfl, hb, hx, hc1, hc2⟩ := RRow.at_ h' hlt
              cases hq : decide (x.1 < id) with
              | true => exact .inl ⟨b, off, x, rfl, hlt, ⟨hx⟩, hb, hc1, hc2, hq⟩
              | false => exact .inr (.inl ⟨b, off, x.1, rfl, hlt, ⟨add_split X id k hk HB.out (fun y hy => by rw [hx] at hy; cases hy; exact hq)⟩, hb, hc1, hq⟩)
            · exact .inr (.inr ⟨hlt, ⟨add_split X id k hk HB.out (fun y hy => absurd (List.getElem?_eq_some_iff.1 hy).1 hlt)⟩⟩)
          rcases hcs with ⟨b, off, x, rfl, hlt, HX, hb, hc1, hc2, hq⟩ | ⟨b, off, x, rfl, hlt, HS, hb, hc1, hq⟩ | ⟨hlt, HS⟩
          · have HQ := Sec.mk hq
            have e1 : Sec (X.take (k + 1) = X.take k ++ [x]) := ⟨by rw [List.take_add_one, HX.out]; rfl⟩
            go_wp2_with (at_builtin; refine app_row (W := wr) w1.heap.size rfl (.tmp 44) (.tmp 49) rfl _ _ x rfl rfl hov hur.size (by rw [List.length_take]; omega) (fun v1 w3 ho3 hu3 _ => ?_))
            go_roundw
            case rel =>
              refine ⟨k + 1, by omega, by go_num, ⟨?_⟩, ?_, hur.trans hu3 (fun j hj e => ?_)⟩
              · rw [e1.out]
                intro y hy
                rcases List.mem_append.1 hy with hy | hy
                · exact HB.out y hy
                · simp at hy; subst hy; exact HQ.out
              · rw [e1.out]; exact ho3
              · have := hov.new j e.symm; omega
            case measure => simp [intOf]; omega
          all_goals
            have htk : (X.take k).length = k := by rw [List.length_take]; omega
            obtain ⟨Y, hY⟩ : ∃ Y, Y = X.take k := ⟨_, rfl⟩
            rw [← hY] at hov htk
            have HT := Sec.mk htk
            have HY := Sec.mk hY
            clear hY
            obtain ⟨av, cv, rfl⟩ := hov.slice
            rw [htk] at hov
            rw [htk]
            clear htk
            have hRS := Sec.mk h
            have hRS' := Sec.mk h'
            clear h h'
            go_wp2_with (first
              | (at_builtin; refine app_row (W := wr) w1.heap.size rfl (.tmp 53) (.tmp 57) rfl _ _ (id, parent) rfl rfl hov hur.size (by rw [HT.out]; omega) (fun v1 w3 ho3 hu3 _ => ?_); have hu13 : Upd No w1 w3 := hur.trans hu3 (fun j hj e => by have := hov.new j e.symm; omega); clear hu3)
              | (refine slice_from D rfl (.tmp 60) (.tmp 61) _ _ _ 16 rfl Tryd.underlying25 rfl info_row _ X k rfl rfl (upd_world hu13 hRS.out) hk (fun vd hvd => ?_))
              | (at_builtin; refine appS (fun _ => False) D w1.heap.size rfl (.tmp 59) (.tmp 62) _ _ _ 2 16 good_row rfl Tryd.underlying25 info_row rfl (by decide) (by decide) _ _ _ (X.drop k) rfl rfl hvd (fun e => e) ho3 hu13.size (by have := HT.out; rw [List.length_append, List.length_drop]; simp only [List.length_cons, List.length_nil]; omega) (fun _ e => e.elim) (fun v2 w4 ho4 hu4 _ => ?_)))
            · rw [e1.out, HS.out.1, HS.out.2, ← HY.out]
              exact bodyPost_ret (v := .tuple #[v2, .int .i64 0]) (by simp [results, Tryd.results15, go_sem]) rfl ⟨_, rfl, .inr ho4, hu13.trans hu4 (fun j hj e => by have := ho3.new j e.symm; omega)⟩
end Go.Proofs.YtkfnaahkfogcoaaDoor
