/- AnnotOutlived answers true for every list of acts and every kind: the tied card of the row. No condition besides the row's own. -/
import Derived.Test.YtkfnaahkfogcoaaDoorOutlived
import Derived.Test.YtkfnaahkfogcoaaDoorOpen
import Derived.Test.YtkfnaahkfogcoaaDoorCards
import Derived.Test.YtkfnaahkfogcoaaDoorTie
import Derived.WalkKit
import Derived.ProofKit
import Derived.Deep.DeepHandedRow
import Derived.Lib.LaidTab
namespace Go.Proofs.YtkfnaahkfogcoaaDoor.annotOutlived
open Go.ChangeShapes Go.WideShapes Go.ChangeAt Go.RowKit

theorem own : ownKnob Tryd.prog.godebug = none := by kernel_rfl
theorem laidOut : laidOutB Tryd.prog = true := by kernel_rfl
theorem gTab : Tryd.prog.globalNamed "kraal/desc.what" = some 0 := by kernel_rfl
theorem gTabType : (Tryd.prog.globals[0]?).map (·.type) = some 85 := by kernel_rfl
theorem cellsTab : Tryd.prog.cellsOf 85 = 4 := by kernel_rfl
theorem cellsInt : Tryd.prog.cellsOf 3 = 1 := by kernel_rfl
theorem cellsAct : Tryd.prog.cellsOf 40 = 3 := by kernel_rfl
theorem readable : ∀ t ∈ Tryd.f3.params.toList, Tryd.prog.readableRec t = true ∧ t < Tryd.prog.types.size := by
  rw [Tryd.params3]
  intro t ht
  simp at ht
  rcases ht with rfl | rfl
  · exact ⟨by kernel_rfl, of_decide_eq_true (by kernel_rfl)⟩
  · exact ⟨by kernel_rfl, of_decide_eq_true (by kernel_rfl)⟩

/-- What the row lists gives the table's cells. -/
theorem table {W : World} (h : laidMetH Tryd.prog Rows.annotOutlivedRow.laid W) : What W := by
  have ht : Lib.TabIs Tryd.prog W "kraal/desc.what" .i64 [0, 1, 1, 1] := Lib.tabIs_of_head (rest := []) gTab gTabType Tryd.underlying85 Tryd.underlying3 cellsInt cellsTab h
  have c0 : W.cell? ⟨0, 0, none⟩ = some (.int .i64 0) := ht.cell gTab 0 (by decide)
  exact ⟨World.block_lt_of_cell? W _ c0, c0, ht.cell gTab 1 (by decide), ht.cell gTab 2 (by decide), ht.cell gTab 3 (by decide)⟩

theorem decAct {H : Type} {enc : TypeId × Value → H} {W : World} {base : Nat} {sp : Nat → Bool} {held : Bool} (m : Nat) (vs : List Value) (z : DataW H × List MemPlace) (hl : vs.length = 3)
    (h : DataW.trod enc Tryd.prog W base sp held m 40 vs = some z) : ∃ x, Flat encAct (fun k => k < W.heap.size) W vs x := by
  obtain ⟨_, hf⟩ := open_fields Tryd.underlying40 (by kernel_rfl) (by kernel_rfl) h
  match vs, hl, hf with
  | [u0, u1, u2], _, hf =>
    obtain ⟨n0, z0, h0⟩ := hf 0 _ u0 rfl rfl
    obtain ⟨n1, z1, h1⟩ := hf 1 _ u1 rfl rfl
    obtain ⟨n2, z2, h2⟩ := hf 2 _ u2 rfl rfl
    obtain ⟨i, hi, _⟩ := DataW.trod_int Tryd.underlying3 h0
    obtain ⟨p, hp, _⟩ := DataW.trod_int Tryd.underlying3 h1
    obtain ⟨b, hb, _⟩ := DataW.trod_bool Tryd.underlying4 h2
    simp only [List.cons.injEq, and_true] at hi hp hb
    exact ⟨⟨i, p, b⟩, by rw [hi, hp, hb]; rfl⟩

theorem contract (H : Type) (enc : TypeId × Value → H) (W : World) (base : Nat) (args : Array Value) (ds gs : List (DataW H)) (before : List MemPlace)
    (hval : ∀ (j : Nat) t v, Tryd.f3.params[j]? = some t → args[j]? = some v → Value.okWide Tryd.prog W .any base t v)
    (hW : DataW.Whole enc Tryd.prog Tryd.f3.params.toList Rows.annotOutlivedSpec.vars false W args.toList ds gs before) (hL : laidMetH Tryd.prog Rows.annotOutlivedRow.laid W) :
    Calls Tryd.prog 3 args W fun e W' => ∃ v, e = .returned v ∧ Rows.annotOutlivedSpec.post enc Tryd.prog Tryd.f3 false true false false W args v W' := by
  have hW' := hW
  obtain ⟨p, q, hA0, hV, rfl, hfz, hnd⟩ := hW
  have hA : DataW.TrodAll enc Tryd.prog W 0 (fun _ => true) true Tryd.f3.params.toList args.toList ds p := hA0
  rw [Tryd.params3] at hA hval
  obtain ⟨v0, vs0, d0, ds0, p0, q0, hargs, rfl, rfl, h0, r0⟩ := trodAll_cons hA
  obtain ⟨v1, vs1, d1, ds1, p1, q1, rfl, rfl, rfl, h1, r1⟩ := trodAll_cons r0
  obtain ⟨rfl, rfl, rfl⟩ := trodAll_nil r1
  obtain rfl : args = #[v0, v1] := by cases args; simp_all
  obtain ⟨rfl, rfl⟩ := trodVars_none hV
  obtain ⟨kind, rfl, rfl, rfl, hwf⟩ := open_int Tryd.underlying5 (hval 1 5 v1 rfl rfl) h1
  obtain ⟨a0, len, cap, rfl⟩ := okWide_slice Tryd.underlying22 (hval 0 22 v0 rfl rfl)
  obtain ⟨fuel, hf⟩ := h0
  obtain ⟨l, v, hv, hrs⟩ := open_rs (R := Flat encAct) Tryd.underlying22 cellsAct (by decide) good_act (fun m vs z hl h => decAct m vs z hl h) hf
  simp [Value.cells] at hv
  subst hv
  have hk : 0 ≤ kind ∧ kind ≤ 255 := by
    simp only [Lit.wf, Bool.and_eq_true, decide_eq_true_eq] at hwf
    have e1 : IntKind.u8.min = 0 := rfl
    have e2 : IntKind.u8.max = 255 := rfl
    omega
  refine (outlived_calls W _ _ l kind hrs (table hL) hk.1 hk.2).mono ?_
  rintro e W' ⟨rfl, hu⟩
  exact ⟨_, rfl, post_ro hW' rfl laidOut readable rfl rfl Tryd.underlying4 (hu.below (Nat.le_refl _) (fun _ e => e.elim))⟩

/-- A world that shows that the row speaks of something: the table holds what its initialiser lays. -/
noncomputable def laidWorld (os : Os) : World :=
  { World.holding Tryd.prog os ⟨#[], #[], []⟩ with heap := (World.holding Tryd.prog os ⟨#[], #[], []⟩).heap.modify 0 fun
      | .cells _ t frozen => .cells #[.int .i64 0, .int .i64 1, .int .i64 1, .int .i64 1] t frozen
      | o => o }
theorem laid_met (os : Os) : laidMet Tryd.prog Rows.annotOutlivedRow.laid ((laidWorld os).forCall (fun _ _ => 0) ⟨#[], #[.slice none 0 0, .int .u8 0], []⟩).memory :=
  laidMet_of_run' 8 (by kernel_rfl) (by kernel_rfl)
theorem reads (os : Os) {H : Type} (enc : TypeId × Value → H) : ∃ places, DataW.whole enc Tryd.prog ((laidWorld os).forCall (fun _ _ => 0) ⟨#[], #[.slice none 0 0, .int .u8 0], []⟩).memory Tryd.f3.params.toList Rows.annotOutlivedSpec.vars false #[Value.slice none 0 0, Value.int .u8 0].toList 8 = some ([.nil, .lit (.int .u8 0)], [], places) :=
  ⟨[], by kernel_rfl⟩

set_option maxRecDepth 100000 in
theorem lifted (os : Os) (started : os.Started) (H : Type) (enc : TypeId × Value → H) (F : Stop.Interp) :
    ReturnsInHanded {} Tryd.checked os 3 .any ((OpenSpec.ofChange Rows.annotOutlivedSpec).preRow enc Tryd.prog Tryd.f3 Rows.annotOutlivedRow.domain false Rows.annotOutlivedRow.laid) (((OpenSpec.ofChange Rows.annotOutlivedSpec).at F).post enc Tryd.prog Tryd.f3 false true false false) := by
  obtain ⟨places, hx⟩ := reads os enc
  refine returnsInHanded_of_row (C := Tryd.checked) (s := OpenSpec.ofChange Rows.annotOutlivedSpec) own started (by kernel_rfl) Tryd.func3
    (witness_row_at (enc := enc) (C := Tryd.checked) false (laidWorld os) #[.slice none 0 0, .int .u8 0] rfl (by kernel_rfl) (by kernel_rfl) (by kernel_rfl)
      (OpenSpec.preRow_of_cond 8 hx (by kernel_rfl) (fun k hk => by cases hk) (by kernel_rfl) (laid_met os))) ?_
  intro W base args ds gs before hval hW _ _ _ hL _ _
  exact contract H enc W base args ds gs before hval hW hL

theorem said : Rows.AnnotOutlivedSaid :=
  OpenClaim.holds_of_cond 3 Tryd.f3 rfl rfl rfl rfl rfl rfl rfl ⟨rfl, rfl, rfl, rfl, rfl⟩ rfl rfl rfl rfl rfl (by kernel_rfl) Tryd.func3 (by kernel_rfl)
    (of_decide_eq_true (by kernel_rfl)) (by unfold Func.isWrapper; first | (rw [if_pos (by decide +kernel)]; kernel_rfl) | (rw [if_neg (by decide +kernel)]; exact ⟨rfl, rfl⟩))
    (fun os started H enc _ F => by rw [OpenClaim.pre_eq_preRow]; exact lifted os started H enc F)

theorem plain (f : FuncId) (fn : Func) (hf : Tryd.pinned.checked.prog.funcNamed "kraal/kraallaw14.AnnotOutlived" = some f) (hfn : Tryd.pinned.checked.prog.funcs[f]? = some fn) :
    false = Tryd.pinned.checked.prog.looks [] ∧ ∀ (j : Nat) t, fn.params[j]? = some t → Tryd.pinned.checked.prog.wantsStandIn t = false := by
  obtain rfl : f = 3 := Option.some.inj ((show Tryd.prog.funcNamed "kraal/kraallaw14.AnnotOutlived" = some 3 by kernel_rfl).symm.trans hf) |>.symm
  obtain rfl : fn = Tryd.f3 := (Option.some.inj (Tryd.func3.symm.trans hfn)).symm
  refine ⟨by kernel_rfl, fun j t ht => ?_⟩
  rw [Tryd.params3] at ht
  have hm := Array.mem_of_getElem? ht
  simp at hm
  rcases hm with rfl | rfl
  · exact (show Tryd.prog.wantsStandIn 22 = false by kernel_rfl)
  · exact (show Tryd.prog.wantsStandIn 5 = false by kernel_rfl)

theorem card : Rows.AnnotOutlivedCardSaid :=
  Claim7.holds_tied_plain_at .later [] _ _ _ _ said (fun _ h => by cases h) (by kernel_rfl) (fun _ h => by cases h) annotOutlived_row_tie rfl ⟨rfl, rfl⟩ (by kernel_rfl) rfl plain (by kernel_rfl)
end Go.Proofs.YtkfnaahkfogcoaaDoor.annotOutlived
