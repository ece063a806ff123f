/- Arguments that are only read: opened, and read again behind the call. -/
import Derived.Test.YtkfnaahkfogcoaaDoorRep
import Derived.Deep.Slices
import Derived.Deep.Fields
import Derived.ChangeSame
import Derived.WideKeyArgs
import Derived.Carry
import Derived.OpenShut
namespace Go.Proofs.YtkfnaahkfogcoaaDoor
open Go.RowKit Go.WideShapes Go.ChangeShapes Go.Deep

section
variable {H : Type} {enc : TypeId × Value → H} {P : Program} {W W' : World} {base : Nat} {sp : Nat → Bool} {held : Bool}

theorem choose_list {α : Type} {p : Nat → α → Prop} : ∀ (n : Nat), (∀ i, i < n → ∃ x, p i x) → ∃ xs : List α, xs.length = n ∧ ∀ i x, xs[i]? = some x → p i x
  | 0, _ => ⟨[], rfl, by simp⟩
  | n + 1, h => by
    obtain ⟨xs, h1, h2⟩ := choose_list n (fun i hi => h i (by omega))
    obtain ⟨y, hy⟩ := h n (by omega)
    refine ⟨xs ++ [y], by simp [h1], fun i x hx => ?_⟩
    rcases Nat.lt_or_ge i n with hi | hi
    · rw [List.getElem?_append_left (by omega)] at hx
      exact h2 i x hx
    · rw [List.getElem?_append_right (by omega)] at hx
      have : i = n := by
        have := (List.getElem?_eq_some_iff.1 hx).1
        simp at this; omega
      subst this
      simp [h1] at hx
      subst hx; exact hy

theorem spot_none {a : Addr} {u : Value} (h : W.cell? a = some u) : a = ⟨a.block, a.off, none⟩ ∧ a.block < W.heap.size := by
  refine ⟨?_, World.block_lt_of_cell? W a h⟩
  unfold World.cell? at h
  split at h
  · split at h
    · cases h
    · rename_i hs
      cases a with
      | mk b o s => cases s with
        | none => rfl
        | some _ => simp at hs
  · cases h

/-- A slice, whose elements are opened by 'dec'. -/
theorem open_rs {α : Type} {R : Rep α} {t e : TypeId} {sz : Nat} {fuel : Nat} {cs : List Value} {y : DataW H × List MemPlace} (ht : P.underlying t = some (.slice e)) (hC : P.cellsOf e = sz) (hsz : 0 < sz) (g : Good R sz)
    (dec : ∀ (m : Nat) (vs : List Value) (z : DataW H × List MemPlace), vs.length = sz → DataW.trod enc P W base sp held m e vs = some z → ∃ x, R (fun k => k < W.heap.size) W vs x)
    (h : DataW.trod enc P W base sp held fuel t cs = some y) : ∃ xs, RSl R sz (fun k => k < W.heap.size) W cs xs := by
  rcases open_slice ht h with ⟨rfl, _⟩ | ⟨a, len, cap, m, n, Dn, Pl, rfl, hb, hl, hm, hmm, hx, hi⟩
  · exact ⟨[], _, rfl, RS.nil _ _ _ _ _ _⟩
  · rw [hC] at hi
    have hlm : len ≤ m := by rw [hmm]; split <;> omega
    obtain ⟨xs, h1, h2⟩ := choose_list (p := fun i x => ∃ vs, R (fun k => k < W.heap.size) W vs x ∧ ∀ j u, vs[j]? = some u → W.cell? (a.add (i * sz + j)) = some u) len (fun i hil => by
      obtain ⟨vs, hc, htr⟩ := hi i (by omega)
      obtain ⟨_, hcl, hat⟩ := World.cells?_some hc
      obtain ⟨x, hx⟩ := dec n vs _ hcl htr
      refine ⟨x, vs, hx, fun j u hu => ?_⟩
      have hjl := (List.getElem?_eq_some_iff.1 hu).1
      rw [← hu, ← hat j (by omega), Go.Deep.add_add])
    refine ⟨xs, _, rfl, some a, cap, by rw [h1], by omega, ⟨by unfold maxLen at hm; omega⟩, ⟨fun hp => ?_⟩⟩
    obtain ⟨vs, hr, hc⟩ := h2 0 _ (List.getElem?_eq_getElem hp)
    have hvl := g.len hr
    have h0 := hc 0 _ (List.getElem?_eq_getElem (by omega))
    have hadd : a.add (0 * sz + 0) = a := by rw [Nat.zero_mul]; unfold Addr.add; cases a; simp
    rw [hadd] at h0
    obtain ⟨e1, e2⟩ := spot_none h0
    refine ⟨a.block, a.off, by rw [← e1], e2, e2, fun i x hx => ?_⟩
    obtain ⟨vs, hr, hc⟩ := h2 i x hx
    refine ⟨vs, hr, fun j u hu => ?_⟩
    have := hc j u hu
    rw [e1, Addr.add_lit] at this
    rw [← this]; congr 2; omega

/-- A struct whose fields take one cell each. -/
theorem open_fields {t : TypeId} {fs : Array Field} {fuel : Nat} {cs : List Value} {y : DataW H × List MemPlace} (he : P.underlying t = some (.struct fs)) (hone : oneCellFields P fs = true) (hC : P.cellsOf t = fs.size)
    (h : DataW.trod enc P W base sp held fuel t cs = some y) : cs.length = fs.size ∧ ∀ (j : Nat) (f : Field) (u : Value), fs[j]? = some f → cs[j]? = some u → ∃ n z, DataW.trod enc P W base sp held n f.type [u] = some z := by
  obtain ⟨ys, n', hn', hy, hlen, hyl, hf⟩ := DataW.trod_struct he h
  refine ⟨by rw [hlen, hC], fun j f u hj hu => ?_⟩
  obtain ⟨ho, hk⟩ := hone_of hone j f hj
  have h1 := hf j f hj
  rw [ho, hk] at h1
  have hjl := (List.getElem?_eq_some_iff.1 hu).1
  have hone' : (cs.drop j).take 1 = [u] := by
    rw [List.drop_eq_getElem_cons hjl]
    have := (List.getElem?_eq_some_iff.1 hu).2
    simp [this]
  rw [hone'] at h1
  have hys : ys[j]? = some (ys[j]'(by omega)) := List.getElem?_eq_getElem (by omega)
  exact ⟨n', _, h1.trans hys⟩

theorem trodAll_again (hl : laidOutB P = true) (hb : Below W.heap.size W W') : ∀ {ts : List TypeId} {vs : List Value} {ds : List (DataW H)} {ps : List MemPlace}, (∀ t ∈ ts, P.readableRec t = true ∧ t < P.types.size) →
    DataW.TrodAll enc P W 0 (fun _ => true) true ts vs ds ps → (∀ x ∈ ps, x.block < W.heap.size) → (∀ x ∈ ps, sp x.block = true) → DataW.TrodAll enc P W' 0 sp true ts vs ds ps
  | [], vs, ds, ps, _, h, _, _ => by
    obtain ⟨rfl, rfl, rfl⟩ := trodAll_nil h
    exact trodAll_mk0
  | t :: ts, vs, ds, ps, hr, h, hlt, hsp => by
    obtain ⟨v0, vs0, d0, ds0, p0, q0, rfl, rfl, rfl, h0, r0⟩ := trodAll_cons h
    have h1 := hr t (by simp)
    exact ⟨p0, q0, (WideElems.Trod_stays hl h1.1 h1.2 h0 (fun x hx => hb.same (hlt x (by simp [hx]))) (fun x hx => hsp x (by simp [hx]))),
      trodAll_again hl hb (fun t ht => hr t (by simp [ht])) r0 (fun x hx => hlt x (by simp [hx])) (fun x hx => hsp x (by simp [hx])), rfl⟩
/-- What a row asks behind a call that returns true and has changed no old block. -/
theorem post_ro {f : Func} {s : ChangeSpec} {tb : TypeId} {apart fresh handsOn again : Bool} {args : Array Value} {ds gs : List (DataW H)} {before : List MemPlace}
    (hW : DataW.Whole enc P f.params.toList s.vars apart W args.toList ds gs before) (hvs : s.vars = []) (hl : laidOutB P = true) (hr : ∀ t ∈ f.params.toList, P.readableRec t = true ∧ t < P.types.size)
    (hspec : s.fn H (ds ++ gs) = { results := [.lit (.bool true)], args := ds }) (hres : f.resultTypes = #[tb]) (htb : P.underlying tb = some .bool) (hb : Below W.heap.size W W') :
    s.post enc P f apart fresh handsOn again W args (.bool true) W' := by
  have hlt : ∀ p ∈ before, p.block < W.heap.size := fun p hp => hW.lt p hp
  obtain ⟨p, q, hA, hV, hpq, hz, hn⟩ := id hW
  rw [hvs] at hV
  obtain ⟨rfl, rfl⟩ := trodVars_none hV
  rw [List.append_nil] at hpq
  subst hpq
  have hargs : ∀ sp : Nat → Bool, (∀ x ∈ before, sp x.block = true) → DataW.TrodAll enc P W' 0 sp true f.params.toList args.toList (s.fn H (ds ++ [])).args before := fun sp hsp => by
    rw [hspec]
    exact trodAll_again hl hb hr hA hlt hsp
  have hR : ∀ (b : Nat) (sp : Nat → Bool) (hd : Bool), DataW.TrodAll enc P W' b sp hd f.resultTypes.toList ((Value.bool true).resultList f.resultTypes.size) (s.fn H (ds ++ [])).results [] := fun b sp hd => by
    rw [hspec, hres]
    exact trodAll_cons_mk (shut_bool htb true) trodAll_mk0
  have hVV : ∀ sp : Nat → Bool, DataW.TrodVars enc P W' sp s.vars (s.fn H (ds ++ [])).vars [] := fun sp => by rw [hvs, hspec]; rfl
  refine ⟨ds, [], before, [], before, [], hW, hR _ _ _, hargs _ (fun x hx => by simpa using hlt x hx), hVV _, World.keptBut_mono (fun x hx => ⟨hx, by simpa using hx⟩) (hb.frame (· ∈ before)), fun _ => ⟨?_, _, _, ([] ++ before) ++ [], ⟨[] ++ before, [], trodAll_append (hargs _ (fun _ _ => rfl)) (hR _ _ _), hVV _, rfl, ?_, ?_⟩, ?_⟩⟩
  · exact ok_one hres rfl (okWide_bool_mk htb true)
  · intro b off hp
    have hin : MemPlace.cell b off ∈ before := by simpa using hp
    rw [hb.frozen (hlt _ hin)]
    exact hz b off hin
  · intro ha
    simpa using hn ha
  · intro x hx _
    simpa using hx
end
end Go.Proofs.YtkfnaahkfogcoaaDoor
