/- Trees that acts make: no program here. -/
import Derived.Test.YtkfnaahkfogcoaaDoorGrown
namespace Go.Proofs.YtkfnaahkfogcoaaDoor
open Go.RowKit

/-- What acts make: each comes behind its parent. -/
inductive WFT : List (Int × Int) → Prop
  | nil : WFT []
  | snoc {T : List (Int × Int)} {id p : Int} : WFT T → ¬ id < 1 → hasT T id = false → (p = 0 ∨ hasT T p = true) → WFT (T ++ [(id, p)])

theorem hasT_iff {T : List (Int × Int)} {id : Int} : hasT T id = true ↔ ∃ p, (id, p) ∈ T := by
  unfold hasT
  rw [List.any_eq_true]
  constructor
  · rintro ⟨⟨a, b⟩, h, e⟩
    simp at e; subst e; exact ⟨b, h⟩
  · rintro ⟨p, h⟩
    exact ⟨_, h, by simp⟩
theorem mem_kidsOf {T : List (Int × Int)} {id k : Int} : k ∈ kidsOf T id ↔ (k, id) ∈ T := by
  unfold kidsOf sortI
  rw [List.mem_mergeSort, List.mem_map]
  constructor
  · rintro ⟨⟨a, b⟩, h, rfl⟩
    obtain ⟨h1, h2⟩ := List.mem_filter.1 h
    simp at h2; subst h2; exact h1
  · intro h
    exact ⟨(k, id), List.mem_filter.2 ⟨h, by simp⟩, rfl⟩
theorem WFT.add {T : List (Int × Int)} (h : WFT T) (id p : Int) : WFT (addT T id p).1 := by
  unfold addT
  split
  · exact h
  · rename_i h1
    split
    · exact h
    · rename_i h2
      refine .snoc h (fun e => h1 (.inl e)) ?_ ?_
      · cases hh : hasT T id with
        | false => rfl
        | true => exact absurd (.inr hh) h1
      · by_cases hp : p = 0
        · exact .inl hp
        · refine .inr ?_
          cases hh : hasT T p with
          | true => rfl
          | false => exact absurd ⟨hp, hh⟩ h2
theorem WFT.drop {T : List (Int × Int)} (h : WFT T) {id : Int} (hk : ∀ k, (k, id) ∉ T) : WFT (T.filter (fun p => p.1 ≠ id)) := by
  induction h with
  | nil => exact .nil
  | @snoc T i p ht h1 h2 h3 ih =>
    have ih := ih (fun k hk' => hk k (by simp [hk']))
    rw [List.filter_append]
    by_cases he : i = id
    · subst he
      simpa using ih
    · have e1 : List.filter (fun p => decide (p.1 ≠ id)) [(i, p)] = [(i, p)] := by simp [he]
      rw [e1]
      refine .snoc ih h1 ?_ ?_
      · cases hh : hasT (T.filter (fun p => decide (p.1 ≠ id))) i with
        | false => rfl
        | true =>
          obtain ⟨q, hq⟩ := hasT_iff.1 hh
          rw [hasT_iff.2 ⟨q, (List.mem_filter.1 hq).1⟩] at h2
          cases h2
      · rcases h3 with h3 | h3
        · exact .inl h3
        · obtain ⟨q, hq⟩ := hasT_iff.1 h3
          refine .inr (hasT_iff.2 ⟨q, List.mem_filter.2 ⟨hq, ?_⟩⟩)
          have : p ≠ id := fun e => hk i (by simp [e])
          simp [this]
theorem WFT.rem {T : List (Int × Int)} (h : WFT T) (id : Int) : WFT (remT T id).1 := by
  unfold remT
  split
  · exact h
  · split
    · exact h
    · rename_i _ hk
      refine h.drop (fun k hm => ?_)
      have := mem_kidsOf.2 hm
      simp at hk
      rw [hk] at this
      simp at this
theorem WFT.play (l : List ActT) : ∀ (T : List (Int × Int)), WFT T → WFT (l.foldl stepT T) := by
  induction l with
  | nil => exact fun T h => h
  | cons a l ih =>
    intro T h
    refine ih _ ?_
    unfold stepT
    split
    · exact h.rem _
    · exact h.add _ _
theorem wft_play (l : List ActT) : WFT (playT l) := WFT.play l [] .nil

theorem WFT.closed {T : List (Int × Int)} (h : WFT T) : ∀ k p, (k, p) ∈ T → ¬ k < 1 ∧ (p = 0 ∨ hasT T p = true) := by
  induction h with
  | nil => intro k p h; simp at h
  | @snoc T i q ht h1 h2 h3 ih =>
    intro k p hm
    have up : ∀ x, hasT T x = true → hasT (T ++ [(i, q)]) x = true := fun x hx => by
      obtain ⟨y, hy⟩ := hasT_iff.1 hx
      exact hasT_iff.2 ⟨y, by simp [hy]⟩
    rcases List.mem_append.1 hm with hm | hm
    · obtain ⟨h4, h5⟩ := ih k p hm
      exact ⟨h4, h5.imp id (up p)⟩
    · simp at hm
      obtain ⟨rfl, rfl⟩ := hm
      exact ⟨h1, h3.imp id (up p)⟩
theorem WFT.nodup {T : List (Int × Int)} (h : WFT T) : (T.map (·.1)).Nodup := by
  induction h with
  | nil => simp
  | @snoc T i q ht h1 h2 h3 ih =>
    rw [List.map_append, List.nodup_append]
    refine ⟨ih, by simp, fun a ha b hb e => ?_⟩
    simp at hb
    subst hb
    subst e
    obtain ⟨⟨x, y⟩, hx, rfl⟩ := List.mem_map.1 ha
    rw [hasT_iff.2 ⟨y, hx⟩] at h2
    cases h2
theorem nodup_inj : ∀ {T : List (Int × Int)}, (T.map (·.1)).Nodup → ∀ {k p q}, (k, p) ∈ T → (k, q) ∈ T → p = q
  | [], _, k, p, q, h, _ => by simp at h
  | (a, b) :: T, hn, k, p, q, h1, h2 => by
    simp only [List.map_cons, List.nodup_cons] at hn
    have no : ∀ z, (a, z) ∈ T → False := fun z hz => hn.1 (List.mem_map.2 ⟨_, hz, rfl⟩)
    rcases List.mem_cons.1 h1 with e1 | h1 <;> rcases List.mem_cons.1 h2 with e2 | h2
    · cases e1; cases e2; rfl
    · cases e1; exact (no _ h2).elim
    · cases e2; exact (no _ h1).elim
    · exact nodup_inj hn.2 h1 h2
/-- Numbers that rise from parent to child. -/
theorem WFT.rank {T : List (Int × Int)} (h : WFT T) : ∃ r : Int → Nat, (∀ x, r x ≤ T.length) ∧ ∀ k p, (k, p) ∈ T → r p < r k := by
  induction h with
  | nil => exact ⟨fun _ => 0, by simp, by simp⟩
  | @snoc T i q ht h1 h2 h3 ih =>
    obtain ⟨r, hr1, hr2⟩ := ih
    have hq : q ≠ i := by
      rintro rfl
      rcases h3 with h3 | h3
      · omega
      · rw [h2] at h3; cases h3
    refine ⟨fun x => if x = i then T.length + 1 else r x, fun x => ?_, fun k p hm => ?_⟩
    · simp only [List.length_append, List.length_cons, List.length_nil]
      split
      · omega
      · have := hr1 x; omega
    · rcases List.mem_append.1 hm with hm0 | hm0
      · have hki : k ≠ i := by
          rintro rfl
          rw [hasT_iff.2 ⟨_, hm0⟩] at h2; cases h2
        have hpi : p ≠ i := by
          rintro rfl
          rcases (ht.closed _ _ hm0).2 with e | e
          · omega
          · rw [h2] at e; cases e
        simp only [hki, hpi, if_false]
        exact hr2 k p hm0
      · simp at hm0
        obtain ⟨rfl, rfl⟩ := hm0
        simp only [hq, if_false, if_true]
        have := hr1 p; omega
theorem dep_of_rank {T : List (Int × Int)} {r : Int → Nat} (h1 : ∀ x, r x ≤ T.length) (h2 : ∀ k p, (k, p) ∈ T → r p < r k) : ∀ (n : Nat) (id : Int), T.length + 1 ≤ n + r id → Dep T n id
  | 0, id, h => by have := h1 id; omega
  | n + 1, id, h => fun k hk => dep_of_rank h1 h2 n k (by have := h2 k id (mem_kidsOf.1 hk); omega)

/-- a is x, or above it. -/
inductive Anc (T : List (Int × Int)) : Int → Int → Prop
  | self (a : Int) : Anc T a a
  | step {a x p : Int} : (x, p) ∈ T → Anc T a p → Anc T a x
theorem Anc.trans {T : List (Int × Int)} {a b c : Int} (h : Anc T a b) (k : Anc T b c) : Anc T a c := by
  induction k with
  | self => exact h
  | step hm _ ih => exact .step hm ih
theorem Anc.rank {T : List (Int × Int)} {r : Int → Nat} (h2 : ∀ k p, (k, p) ∈ T → r p < r k) {a x : Int} (h : Anc T a x) : r a ≤ r x := by
  induction h with
  | self => exact Nat.le_refl _
  | step hm _ ih => exact Nat.le_of_lt (Nat.lt_of_le_of_lt (ih) (h2 _ _ hm))
theorem anc_sib {T : List (Int × Int)} (hn : (T.map (·.1)).Nodup) {r : Int → Nat} (h2 : ∀ k p, (k, p) ∈ T → r p < r k) {a b id x : Int} (ha : (a, id) ∈ T) (hb : (b, id) ∈ T) (h : Anc T a x) (k : Anc T b x) : a = b := by
  induction h with
  | self =>
    cases k with
    | self => rfl
    | step hm hk =>
      have := nodup_inj hn hm ha
      subst this
      have h3 := hk.rank h2
      have h4 := h2 _ _ hb
      omega
  | step hm hk ih =>
    cases k with
    | self =>
      have := nodup_inj hn hm hb
      subst this
      have h3 := hk.rank h2
      have h4 := h2 _ _ ha
      omega
    | step hm' hk' =>
      have := nodup_inj hn hm' hm
      subst this
      exact ih hk'
theorem mem_dfs {T : List (Int × Int)} {r : Int → Nat} (h2 : ∀ k p, (k, p) ∈ T → r p < r k) : ∀ (n : Nat) (id x : Int), x ∈ dfs T n id → Anc T id x ∧ r id < r x ∧ hasT T x = true
  | 0, id, x, h => by simp [dfs] at h
  | n + 1, id, x, h => by
    unfold dfs at h
    obtain ⟨k, hk, hx⟩ := List.mem_flatMap.1 h
    have hm := mem_kidsOf.1 hk
    have hr := h2 _ _ hm
    rcases List.mem_cons.1 hx with rfl | hx
    · exact ⟨.step hm (.self _), hr, hasT_iff.2 ⟨_, hm⟩⟩
    · obtain ⟨h3, h4, h5⟩ := mem_dfs h2 n k x hx
      exact ⟨(Anc.step hm (.self _)).trans h3, by omega, h5⟩
theorem nodup_kids {T : List (Int × Int)} (hn : (T.map (·.1)).Nodup) (id : Int) : (kidsOf T id).Nodup := by
  unfold kidsOf sortI
  refine (List.mergeSort_perm _ _).nodup_iff.2 ?_
  exact hn.sublist (List.filter_sublist.map _)
theorem nodup_dfs {T : List (Int × Int)} (hn : (T.map (·.1)).Nodup) {r : Int → Nat} (h2 : ∀ k p, (k, p) ∈ T → r p < r k) : ∀ (n : Nat) (id : Int), (dfs T n id).Nodup
  | 0, id => by simp [dfs]
  | n + 1, id => by
    unfold dfs
    have key : ∀ ks : List Int, ks.Nodup → (∀ k ∈ ks, (k, id) ∈ T) → (ks.flatMap fun k => k :: dfs T n k).Nodup := by
      intro ks
      induction ks with
      | nil => intro _ _; simp
      | cons k ks ih =>
        intro hk hm
        rw [List.nodup_cons] at hk
        rw [List.flatMap_cons, List.nodup_append]
        refine ⟨List.nodup_cons.2 ⟨fun h => ?_, nodup_dfs hn h2 n k⟩, ih hk.2 (fun j hj => hm j (by simp [hj])), ?_⟩
        · have := (mem_dfs h2 n k k h).2.1; omega
        · rintro x hx _ hy rfl
          obtain ⟨j, hj, hy⟩ := List.mem_flatMap.1 hy
          have a1 : Anc T k x := by
            rcases List.mem_cons.1 hx with rfl | hx
            · exact .self _
            · exact (mem_dfs h2 n k x hx).1
          have a2 : Anc T j x := by
            rcases List.mem_cons.1 hy with rfl | hy
            · exact .self _
            · exact (mem_dfs h2 n j x hy).1
          have := anc_sib hn h2 (hm k (by simp)) (hm j (by simp [hj])) a1 a2
          subst this
          exact hk.1 hj
    exact key _ (nodup_kids hn id) (fun k hk => mem_kidsOf.1 hk)
theorem nodup_len : ∀ {xs ys : List Int}, xs.Nodup → (∀ x ∈ xs, x ∈ ys) → xs.length ≤ ys.length
  | [], ys, _, _ => by simp
  | x :: xs, ys, hn, h => by
    rw [List.nodup_cons] at hn
    have hx := h x (by simp)
    have := nodup_len (ys := ys.erase x) hn.2 (fun y hy => (List.mem_erase_of_ne (by rintro rfl; exact hn.1 hy)).2 (h y (by simp [hy])))
    rw [List.length_erase_of_mem hx] at this
    have := List.length_pos_of_mem hx
    simp only [List.length_cons]
    omega
theorem WFT.ok {T : List (Int × Int)} (h : WFT T) : TreeOk T := by
  obtain ⟨r, h1, h2⟩ := h.rank
  intro id _
  refine ⟨dep_of_rank h1 h2 _ _ (by omega), ?_⟩
  have := nodup_len (ys := T.map (·.1)) (nodup_dfs h.nodup h2 (T.length + 1) id) (fun x hx => by
    obtain ⟨p, hp⟩ := hasT_iff.1 (mem_dfs h2 _ _ _ hx).2.2
    exact List.mem_map.2 ⟨_, hp, rfl⟩)
  simpa using this
theorem WFT.walk {T : List (Int × Int)} (h : WFT T) (id : Int) : (walkT T id).Nodup ∧ ∀ x ∈ walkT T id, hasT T x = true ∧ ¬ x < 1 := by
  obtain ⟨r, h1, h2⟩ := h.rank
  refine ⟨nodup_dfs h.nodup h2 _ _, fun x hx => ?_⟩
  have hh := (mem_dfs h2 _ _ _ hx).2.2
  obtain ⟨p, hp⟩ := hasT_iff.1 hh
  exact ⟨hh, (h.closed _ _ hp).1⟩

theorem idxFrom_mem {x : Int} : ∀ {zs : List Int} {i : Nat}, x ∈ zs → ∃ k : Nat, Lib.idxFrom zs x i = ((i + k : Nat) : Int) ∧ zs[k]? = some x
  | [], i, h => by simp at h
  | z :: zs, i, h => by
    unfold Lib.idxFrom
    by_cases e : z = x
    · subst e
      exact ⟨0, by simp, rfl⟩
    · have hx : x ∈ zs := by
        rcases List.mem_cons.1 h with e' | h
        · exact absurd e'.symm e
        · exact h
      obtain ⟨k, h1, h2⟩ := idxFrom_mem (i := i + 1) hx
      refine ⟨k + 1, ?_, by simpa using h2⟩
      simp only [e]
      rw [show i + (k + 1) = i + 1 + k by omega]
      simpa [e] using h1
theorem idx_inj {zs : List Int} {x y : Int} (hx : x ∈ zs) (hy : y ∈ zs) (h : Lib.idxOf zs x = Lib.idxOf zs y) : x = y := by
  obtain ⟨k, h1, h2⟩ := idxFrom_mem (i := 0) hx
  obtain ⟨j, h3, h4⟩ := idxFrom_mem (i := 0) hy
  unfold Lib.idxOf at h
  rw [h1, h3] at h
  have : k = j := by omega
  subst this
  rw [h2] at h4
  exact Option.some.inj h4
theorem within_self {T : List (Int × Int)} {x : Int} (h : hasT T x = true) : withinT T x x = true := by
  unfold withinT ivalT
  simp only [h, if_true, Bool.true_and, Int.le_refl, decide_true]
  simp
  omega
theorem walk_none {T : List (Int × Int)} {x : Int} (h : kidsOf T x = []) : walkT T x = [] := by
  unfold walkT dfs
  rw [h]; rfl
theorem mem_targets {T : List (Int × Int)} {k holder x : Int} : x ∈ targetsT T k holder ↔ x ∈ walkT T 0 ∧ checkT T k holder x = 0 := by
  unfold targetsT sortI
  rw [List.mem_mergeSort, List.mem_filter]
  simp
theorem checkT_some {T : List (Int × Int)} {k holder x : Int} (hk : ptrKind k = true) (hx : ¬ x < 1) (h1 : hasT T holder = true) (h2 : hasT T x = true) :
    checkT T k holder x = if k = 1 then 0 else if k = 2 then (if holder = x then 0 else 5) else if withinT T holder x = true then 0 else 5 := by
  unfold checkT
  rw [if_neg (by rw [hk]; simp), if_neg (by omega), if_neg (by rw [h1, h2]; simp)]
/-- What a law may ask of the targets that aren't counted. -/
structure TargetsOk (T : List (Int × Int)) (k holder : Int) : Prop where
  each : ∀ x ∈ targetsT T k holder, withinT T holder x = true ∧ (x = holder ∨ remT T x = (T, 6))
  some_ : 1 ≤ (targetsT T k holder).length
  same : k = 2 → targetsT T k holder = [holder]
  counted : (targetsT T 1 holder).length = (walkT T 0).length
theorem filter_eq_one {h : Int} : ∀ {l : List Int}, l.Nodup → h ∈ l → (l.filter fun x => h == x) = [h]
  | [], _, hm => by simp at hm
  | a :: l, hn, hm => by
    rw [List.nodup_cons] at hn
    by_cases e : h = a
    · subst e
      rw [List.filter_cons_of_pos (by simp)]
      have : (l.filter fun x => h == x) = [] := List.filter_eq_nil_iff.2 (fun x hx => by
        simp; rintro rfl; exact hn.1 hx)
      rw [this]
    · rw [List.filter_cons_of_neg (by simpa using e)]
      rcases List.mem_cons.1 hm with e' | hm
      · exact absurd e' e
      · exact filter_eq_one hn.2 hm
theorem targets_ok {T : List (Int × Int)} (h : WFT T) {k holder : Int} (hk : k = 2 ∨ k = 3) (hh : holder ∈ walkT T 0) : TargetsOk T k holder := by
  obtain ⟨hn, hw⟩ := h.walk 0
  have h1 := (hw holder hh).1
  have h1' := (hw holder hh).2
  have hp : ptrKind k = true := by rcases hk with rfl | rfl <;> rfl
  have hself : holder ∈ targetsT T k holder := mem_targets.2 ⟨hh, by
    rw [checkT_some hp h1' h1 h1]
    rcases hk with rfl | rfl
    · simp
    · simp [within_self h1]⟩
  refine ⟨fun x hx => ?_, List.length_pos_of_mem hself, fun e => ?_, ?_⟩
  · obtain ⟨h2, h3⟩ := mem_targets.1 hx
    obtain ⟨h4, h5⟩ := hw x h2
    rw [checkT_some hp h5 h1 h4] at h3
    rcases hk with rfl | rfl
    · simp at h3
      subst h3
      exact ⟨within_self h1, .inl rfl⟩
    · simp at h3
      refine ⟨h3, ?_⟩
      by_cases hkid : kidsOf T x = []
      · left
        unfold withinT ivalT at h3
        simp only [h1, h4, if_true, Bool.true_and, Bool.and_eq_true, decide_eq_true_eq, walk_none hkid, List.length_nil] at h3
        exact idx_inj h2 hh (by omega)
      · right
        unfold remT
        rw [if_neg (by rw [h4]; simp), if_pos hkid]
  · subst e
    have e1 : ((walkT T 0).filter fun id => checkT T 2 holder id == 0) = (walkT T 0).filter fun x => holder == x := by
      refine List.filter_congr (fun x hx => ?_)
      rw [checkT_some rfl (hw x hx).2 h1 (hw x hx).1]
      by_cases e : holder = x <;> simp [e]
    unfold targetsT
    rw [e1, filter_eq_one hn hh]
    simp [sortI]
  · unfold targetsT
    have e1 : ((walkT T 0).filter fun id => checkT T 1 holder id == 0) = walkT T 0 := List.filter_eq_self.2 (fun x hx => by
      rw [checkT_some rfl (hw x hx).2 h1 (hw x hx).1]; rfl)
    rw [e1]
    simp [sortI]
end Go.Proofs.YtkfnaahkfogcoaaDoor
