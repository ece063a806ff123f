/- Ranging over a function: one law for the loop, one form of contract for what is ranged over. 'O' is the set of blocks that the loop's body owns: it alone writes them. -/
import Derived.Test.YtkfnaahkfogcoaaDoorKMap
import Derived.RangeFuncWrites
import Derived.RangeFuncLeaves
import Derived.RangeFuncCalls
namespace Go.Proofs.YtkfnaahkfogcoaaDoor
open Go.RowKit

theorem wide_fn : ∀ f, Fence.wide.fn f := fun _ => trivial
theorem wide_depth : Fence.wide.depth = none := rfl

/-- What J says of a world hangs on blocks below B and on those of O alone. -/
def Stab {β : Type} (B : Nat) (J : (Nat → Prop) → β → World → Prop) : Prop :=
  ∀ O s W W', J O s W → Upd (fun k => B ≤ k ∧ ¬ O k) W W' → J O s W'

/-- The contract of what is ranged over: it hands on xs; 'keep': the old blocks that it reads. -/
def SeqO {α : Type} (P : Program) (gf : FuncId) (lb : Array Value) (encs : α → Array Value) (xs : List α) (keep : Nat → Prop) (w : World) : Prop :=
  ∀ (n l : Nat) (J Jx : (Nat → Prop) → List α → World → Prop) (W : World) (O : Nat → Prop), Upd (fun k => ¬ keep k) w W → Stab W.heap.size J → Stab W.heap.size Jx →
    (∀ O pre x W1, J O pre W1 → (∃ suf, xs = pre ++ x :: suf) → (∀ k, O k → k < W1.heap.size) → YieldAt Fence.wide n P l (encs x) W1 fun e W' =>
      (e = .returned (.bool true) ∧ ∃ O', J O' (pre ++ [x]) W' ∧ Upd O W1 W' ∧ (∀ k, O' k → O k ∨ W1.heap.size ≤ k) ∧ ∀ k, O' k → k < W'.heap.size) ∨
      (e = .returned (.bool false) ∧ ∃ O', Jx O' (pre ++ [x]) W' ∧ Upd (fun k => O k ∨ k < W.heap.size) W1 W' ∧ (∀ k, O' k → O k ∨ W1.heap.size ≤ k))) →
    (∀ k, O k → k < W.heap.size) → (∀ k, keep k → ¬ O k) → l < W.heap.size → ¬ keep l → ¬ O l → J O [] W →
    CallsIn Fence.wide n P gf (#[.func (.yield l) #[] #[]] ++ lb) W fun e W' => (∃ v, e = .returned v) ∧ ∃ O', (J O' xs W' ∨ ∃ pre, pre <+: xs ∧ Jx O' pre W')

theorem roundIn_any {n m : Nat} {P : Program} {l : Nat} {f : FuncId} {tmps : Array Value} {assign body : Code} {w : World} {R : Ending → World → Prop} (h : RoundIn Fence.wide n P l f tmps assign body w R) :
    RoundIn Fence.wide m P l f tmps assign body w R := ⟨h.1, fun c cs _ => h.2 c cs (room_wide _)⟩
theorem roundIn_in {n m l' : Nat} {P : Program} {l : Nat} {f : FuncId} {tmps : Array Value} {assign body : Code} {w : World} {R : Ending → World → Prop} (h : RoundIn Fence.wide n P l f tmps assign body w R) :
    RoundIn (Fence.wide.inRound l') m P l f tmps assign body w R := ⟨h.1, fun c cs _ => h.2 c cs (room_wide _)⟩
/-- How a round's body may be left. -/
def roundOut {α : Type} (B : Nat) (I : (Nat → Prop) → List α → World → Prop) (Ix : Code → (Nat → Prop) → List α → World → Prop) (O : Nat → Prop) (ys : List α) (W : World) : Exit → Act → World → Prop
  | .normal, _, W' => ∃ O', I O' ys W' ∧ Upd O W W' ∧ (∀ k, O' k → O k ∨ W.heap.size ≤ k) ∧ ∀ k, O' k → k < W'.heap.size
  | .ret, _, W' => ∃ O', Ix .ret O' ys W' ∧ Upd (fun k => O k ∨ k < B) W W' ∧ (∀ k, O' k → O k ∨ W.heap.size ≤ k)
  | .exit id, _, W' => ∃ O', Ix (.exit id) O' ys W' ∧ Upd (fun k => O k ∨ k < B) W W' ∧ (∀ k, O' k → O k ∨ W.heap.size ≤ k)
  | .goto t, _, W' => ∃ O', Ix (.goto t) O' ys W' ∧ Upd (fun k => O k ∨ k < B) W W' ∧ (∀ k, O' k → O k ∨ W.heap.size ≤ k)
  | .panic _, _, _ => False
  | .outgrown, _, _ => False

theorem upd_putObj {S : Nat → Prop} (w : World) (l : Nat) (o : Obj) (h : S l) : Upd S w (w.putObj l o) :=
  (upd_of_grown' (grownBy_putObj' w l o)).mono (fun k _ e => by cases e; exact h)
where upd_of_grown' {w w' : World} {row : Option Nat} (h : w.grownBy w' row) : Upd (fun k => some k = row) w w' := ⟨h.os, h.tape, h.output, h.size, fun k hk hn => h.block k hk hn⟩

theorem range_law {α : Type} {P : Program} {g : Operand} {ps : Array Tmp} {assign body : Code} {Q : Exit → Act → World → Prop} {a : Act} {w : World} {n : Nat}
    {gf : FuncId} {lb : Array Value} (hg : a.eval g = .func (.func gf) #[] lb) (eg : ∀ args w, (callFunc gf args).run P w = .ok (.enter gf args) w)
    {encs : α → Array Value} {xs : List α} {keep : Nat → Prop} (hseq : SeqO P gf lb encs xs keep w) (hps : ∀ x, (encs x).size = ps.size) (hkeep : ∀ k, keep k → k < w.heap.size)
    (I : (Nat → Prop) → List α → World → Prop) (Ix : Code → (Nat → Prop) → List α → World → Prop) (hI : Stab w.heap.size I) (hIx : ∀ c, Stab w.heap.size (Ix c))
    (O0 : Nat → Prop) (hO0 : ∀ k, O0 k → k < w.heap.size) (hO1 : ∀ k, keep k → ¬ O0 k) (h0 : I O0 [] w)
    (hround : ∀ (l : Nat) (O : Nat → Prop) (pre : List α) (x : α) (W : World), I O pre W → (∃ suf, xs = pre ++ x :: suf) → (∀ k, O k → k < W.heap.size) → ¬ O l → w.heap.size ≤ l →
      assign.wpIn (Fence.wide.inRound l) (n - 1) P (Exit.then (fun a₁ W₁ => Upd No W W₁ ∧ ∀ W₂, Upd (fun k => k = l) W₁ W₂ → W₂.heap.size = W₁.heap.size → I O pre W₂ →
          body.wpIn (Fence.wide.inRound l) (n - 1) P (roundOut w.heap.size I Ix O (pre ++ [x]) W₂) a₁ W₂) (fun _ _ _ => False))
        { tmps := (ps.zip (encs x)).foldl (fun t (p, v) => t.setIfInBounds p v) a.tmps, defers := [] } W)
    (hdone : ∀ (D : Nat) (O : Nat → Prop) (W : World), w.heap.size ≤ D → ¬ O D → I O xs W → W.heap[D]? = some (.deferred (some [])) → Q .normal { a with defers := { target := .collected D, args := #[] } :: a.defers } W)
    (hstop : ∀ (D : Nat) (c : Code) (O : Nat → Prop) (pre : List α) (W : World), w.heap.size ≤ D → ¬ O D → pre <+: xs → Ix c O pre W → W.heap[D]? = some (.deferred (some [])) →
      c.wpIn Fence.wide n P Q { a with defers := { target := .collected D, args := #[] } :: a.defers } W) :
    (Code.rangeFunc g ps assign body).wpIn Fence.wide n P Q a w := by
  refine wpIn_rangeFunc ?_
  intro fn hfn
  obtain ⟨rec, hrec⟩ : ∃ rec : LoopState → Option Code → Loop, rec = fun st pe => { state := st, pending := pe, fn, tmps := a.tmps, params := ps, assign, body, defers := w.heap.size } := ⟨_, rfl⟩
  obtain ⟨W1, hW1⟩ : ∃ W1, (w.alloc (.deferred (some []))).alloc (.loop (rec .ready none)) = W1 := ⟨_, rfl⟩
  have hL1 : W1.heap[w.heap.size + 1]? = some (.loop (rec .ready none)) := by
    rw [← hW1]; have := World.alloc_heap_new (w.alloc (.deferred (some []))) (.loop (rec .ready none)); rwa [World.size_alloc] at this
  have hK1 : W1.heap[w.heap.size]? = some (.deferred (some [])) := by
    rw [← hW1]; exact (Below.heap_alloc _ _ _ (by simp)).trans (World.alloc_heap_new w _)
  have hs1 : W1.heap.size = w.heap.size + 2 := by rw [← hW1]; simp
  have hu1 : ∀ S, Upd S w W1 := fun S => by rw [← hW1]; exact ((Upd.refl S w).alloc _).alloc _
  have hI1 : I O0 [] W1 := hI _ _ _ _ h0 (hu1 _)
  refine ⟨w.heap.size + 1, [{ target := .collected w.heap.size, args := #[] }], W1, { target := .fn (.func gf) lb, args := #[.func (.yield (w.heap.size + 1)) #[] #[]] }, W1, gf,
    #[.func (.yield (w.heap.size + 1)) #[] #[]] ++ lb, W1, ?_, ?_, ?_, ?_, fun h => absurd h (by simp [Fence.wide]), ?_⟩
  · rw [← hW1, hrec]; exact run_enterLoop_outer _ _ _ _ _
  · simp only [resolve, hg]
    simp [go_sem]
  · intro f' _; trivial
  · simp [invoke, go_sem, eg]
  · have hsub : ∀ {O : Nat → Prop} {k : Nat}, W1.heap.size ≤ k ∧ ¬ O k → w.heap.size ≤ k ∧ ¬ O k := fun h => ⟨by omega, h.2⟩
    refine (hseq (n - 1) (w.heap.size + 1)
      (fun O pre W => I O pre W ∧ W.heap[w.heap.size + 1]? = some (.loop (rec .ready none)) ∧ W.heap[w.heap.size]? = some (.deferred (some [])) ∧ ¬ O (w.heap.size + 1) ∧ ¬ O w.heap.size)
      (fun O pre W => ∃ c, Ix c O pre W ∧ W.heap[w.heap.size + 1]? = some (.loop (rec .done (some c))) ∧ W.heap[w.heap.size]? = some (.deferred (some [])) ∧ ¬ O w.heap.size ∧ ¬ O (w.heap.size + 1))
      W1 O0 (hu1 _) ?_ ?_ ?_ (fun k hk => by have := hO0 k hk; omega) hO1 (by omega) (fun h => by have := hkeep _ h; omega) (fun h => by have := hO0 _ h; omega) ⟨hI1, hL1, hK1, fun h => by have := hO0 _ h; omega, fun h => by have := hO0 _ h; omega⟩).mono ?_
    · rintro O s W W' ⟨hi, hl, hd, hn1, hn2⟩ hu
      refine ⟨hI _ _ _ _ hi (hu.mono (fun k _ h => hsub h)), ?_, ?_, hn1, hn2⟩
      · exact (hu.block _ (Array.getElem?_eq_some_iff.1 hl).1 (fun h => by omega)).trans hl
      · exact (hu.block _ (Array.getElem?_eq_some_iff.1 hd).1 (fun h => by omega)).trans hd
    · rintro O s W W' ⟨c, hi, hl, hd, hn⟩ hu
      refine ⟨c, hIx c _ _ _ _ hi (hu.mono (fun k _ h => hsub h)), ?_, ?_, hn⟩
      · exact (hu.block _ (Array.getElem?_eq_some_iff.1 hl).1 (fun h => by omega)).trans hl
      · exact (hu.block _ (Array.getElem?_eq_some_iff.1 hd).1 (fun h => by omega)).trans hd
    · rintro O pre x W ⟨hi, hl, hk, hn1, hn2⟩ hx hO
      have hlt : w.heap.size + 1 < W.heap.size := (Array.getElem?_eq_some_iff.1 hl).1
      have hy := run_yield (P := P) (args := encs x) hl (by rw [hrec]; exact hps x)
      rw [hrec] at hy
      refine ⟨fn, _, assign, body, hy, roundIn_of_wpIn hfn (wpIn_mono (hround _ O pre x W hi hx hO hn1 (by omega)) ?_)⟩
      rintro e a₁ V₁ hp
      cases e with
      | normal =>
        obtain ⟨hu, hb⟩ := hp
        have hl1 : V₁.heap[w.heap.size + 1]? = some (.loop (rec .ready none)) := (hu.block _ hlt (fun e => e)).trans hl
        have hk1 : V₁.heap[w.heap.size]? = some (.deferred (some [])) := (hu.block _ (by omega) (fun e => e)).trans hk
        have hlt1 : w.heap.size + 1 < V₁.heap.size := (Array.getElem?_eq_some_iff.1 hl1).1
        refine ⟨_, run_beginRound hl1 (by rw [hrec]), ?_⟩
        have hl2 : (V₁.putObj (w.heap.size + 1) (.loop { rec .ready none with state := .busy })).heap[w.heap.size + 1]? = some (.loop { rec .ready none with state := .busy }) := World.putObj_heap_same hlt1
        have hk2 : (V₁.putObj (w.heap.size + 1) (.loop { rec .ready none with state := .busy })).heap[w.heap.size]? = some (.deferred (some [])) := (World.putObj_heap_other (by omega)).trans hk1
        have hu2 : Upd (fun k => k = w.heap.size + 1) V₁ (V₁.putObj (w.heap.size + 1) (.loop { rec .ready none with state := .busy })) := upd_putObj _ _ _ rfl
        have hs2 : (V₁.putObj (w.heap.size + 1) (.loop { rec .ready none with state := .busy })).heap.size = V₁.heap.size := by simp [World.putObj]
        have hi2 := hI _ _ _ _ (hI _ _ _ _ hi (hu.mono (fun k _ e => e.elim))) (hu2.mono (T := fun k => w.heap.size ≤ k ∧ ¬ O k) (fun k _ e => by subst e; exact ⟨by omega, hn1⟩))
        refine wpIn_mono (hb _ hu2 hs2 hi2) ?_
        generalize V₁.putObj (w.heap.size + 1) (.loop { rec .ready none with state := .busy }) = W2 at hl2 hk2 hu2 hs2
        have hlt2 : w.heap.size + 1 < W2.heap.size := by omega
        have fin : ∀ (jump : Option Code) (W3 : World), Upd (fun k => O k ∨ k < w.heap.size) W2 W3 →
            (Instr.endRound (w.heap.size + 1) jump).run P W3 = .ok (.bool jump.isNone) (W3.putObj (w.heap.size + 1) (.loop (rec (if jump.isNone then .ready else .done) jump))) ∧
            (W3.putObj (w.heap.size + 1) (.loop (rec (if jump.isNone then .ready else .done) jump))).heap[w.heap.size + 1]? = some (.loop (rec (if jump.isNone then .ready else .done) jump)) ∧
            (W3.putObj (w.heap.size + 1) (.loop (rec (if jump.isNone then .ready else .done) jump))).heap[w.heap.size]? = some (.deferred (some [])) ∧ W2.heap.size ≤ W3.heap.size := fun jump W3 hk3 => by
          have hl3 : W3.heap[w.heap.size + 1]? = some (.loop { rec .ready none with state := .busy }) := (hk3.block _ hlt2 (fun h => h.elim hn1 (by omega))).trans hl2
          have hd3 : W3.heap[w.heap.size]? = some (.deferred (some [])) := (hk3.block _ (by omega) (fun h => h.elim hn2 (by omega))).trans hk2
          have := run_endRound (P := P) jump hl3
          rw [hrec] at this ⊢
          exact ⟨this, World.putObj_heap_same (Array.getElem?_eq_some_iff.1 hl3).1, (World.putObj_heap_other (by omega)).trans hd3, hk3.size⟩
        have hsz := hu.size
        have hoff : ∀ {O' : Nat → Prop}, (∀ k, O' k → O k ∨ W2.heap.size ≤ k) → ¬ O' (w.heap.size + 1) ∧ ¬ O' w.heap.size := fun h =>
          ⟨fun e => by rcases h _ e with e | e; exact hn1 e; omega, fun e => by rcases h _ e with e | e; exact hn2 e; omega⟩
        have hput : ∀ (W3 : World) (o : Obj), W3.heap.size = (W3.putObj (w.heap.size + 1) o).heap.size := fun W3 o => by simp [World.putObj]
        have hout : ∀ (W3 : World) (o : Obj), Upd (fun k => O k ∨ k < w.heap.size) W2 W3 → Upd (fun k => O k ∨ k < W1.heap.size) W (W3.putObj (w.heap.size + 1) o) := fun W3 o hu3 =>
          (((hu.mono (fun _ _ e => e.elim)).step (hu2.mono (T := fun k => O k ∨ k < W1.heap.size) (fun k _ e => .inr (by omega)))).step (hu3.mono (fun k _ e => e.imp id (fun h => by omega)))).step (upd_putObj W3 _ o (.inr (by omega)))
        have hnew : ∀ {O' : Nat → Prop}, (∀ k, O' k → O k ∨ W2.heap.size ≤ k) → ∀ k, O' k → O k ∨ W.heap.size ≤ k := fun h k hk => (h k hk).imp id (fun h => by omega)
        rintro e a3 W3 hp
        cases e with
        | normal =>
          obtain ⟨O', hi3, hu3, ho1, ho2⟩ := hp
          obtain ⟨hr, hl4, hk4, hs4⟩ := fin none W3 (hu3.mono (fun _ _ e => .inl e))
          obtain ⟨q1, q2⟩ := hoff ho1
          refine ⟨_, _, hr, .inl ⟨rfl, O', ⟨hI _ _ _ _ hi3 (upd_putObj _ _ _ ⟨by omega, q1⟩), hl4, hk4, q1, q2⟩, ?_, fun k hk => (ho1 k hk).imp id (fun h => by omega), fun k hk => by rw [← hput]; exact ho2 k hk⟩⟩
          refine ⟨hu3.os.trans (hu2.os.trans hu.os), hu3.tape.trans (hu2.tape.trans hu.tape), hu3.output.trans (hu2.output.trans hu.output), by rw [← hput]; omega, fun k hk hn => ?_⟩
          by_cases hkl : k = w.heap.size + 1
          · subst hkl; rw [hl, hl4]; rfl
          · rw [World.putObj_heap_other hkl, hu3.block k (by omega) hn, hu2.block k (by omega) hkl, hu.block k hk (fun e => e)]
        | ret =>
          obtain ⟨O', hi3, hu3, ho1⟩ := hp
          obtain ⟨hr, hl4, hk4, _⟩ := fin (some .ret) W3 hu3
          obtain ⟨q1, q2⟩ := hoff ho1
          exact ⟨_, _, hr, .inr ⟨rfl, O', ⟨.ret, hIx _ _ _ _ _ hi3 (upd_putObj _ _ _ ⟨by omega, q1⟩), hl4, hk4, q2, q1⟩, hout W3 _ hu3, hnew ho1⟩⟩
        | exit id =>
          obtain ⟨O', hi3, hu3, ho1⟩ := hp
          obtain ⟨hr, hl4, hk4, _⟩ := fin (some (.exit id)) W3 hu3
          obtain ⟨q1, q2⟩ := hoff ho1
          exact ⟨_, _, hr, .inr ⟨rfl, O', ⟨.exit id, hIx _ _ _ _ _ hi3 (upd_putObj _ _ _ ⟨by omega, q1⟩), hl4, hk4, q2, q1⟩, hout W3 _ hu3, hnew ho1⟩⟩
        | goto t =>
          obtain ⟨O', hi3, hu3, ho1⟩ := hp
          obtain ⟨hr, hl4, hk4, _⟩ := fin (some (.goto t)) W3 hu3
          obtain ⟨q1, q2⟩ := hoff ho1
          exact ⟨_, _, hr, .inr ⟨rfl, O', ⟨.goto t, hIx _ _ _ _ _ hi3 (upd_putObj _ _ _ ⟨by omega, q1⟩), hl4, hk4, q2, q1⟩, hout W3 _ hu3, hnew ho1⟩⟩
        | panic ch => exact hp.elim
        | outgrown => exact hp.elim
      | exit id => exact hp.elim
      | goto t => exact hp.elim
      | ret => exact hp.elim
      | panic ch => exact hp.elim
      | outgrown => exact hp.elim
    · rintro e W2 ⟨⟨v, rfl⟩, O', (⟨hi, hl, hk, q1, q2⟩ | ⟨pre, hpre, c, hi, hl, hk, q2, q1⟩)⟩
      · exact ⟨none, _, by have := run_endLoop (P := P) hl (by rw [hrec]; simp); rw [hrec] at this; exact this, hdone _ O' _ (Nat.le_refl _) q2 (hI _ _ _ _ hi (upd_putObj _ _ _ ⟨by omega, q1⟩)) ((World.putObj_heap_other (by omega)).trans hk)⟩
      · exact ⟨some c, _, by have := run_endLoop (P := P) hl (by rw [hrec]; simp); rw [hrec] at this; exact this, hstop _ c O' pre _ (Nat.le_refl _) q2 hpre (hIx c _ _ _ _ hi (upd_putObj _ _ _ ⟨by omega, q1⟩)) ((World.putObj_heap_other (by omega)).trans hk)⟩

/-- What a loop of that kind leaves among the deferred calls. -/
def mark (D : Nat) : Deferred := { target := .collected D, args := #[] }
theorem leaves_marks {P : Program} {n : Nat} {fn : Func} {tmps : Array Value} {R : Ending → World → Prop} : ∀ (Ds : List Nat) (w : World), Ds.Nodup → (∀ D ∈ Ds, w.heap[D]? = some (.deferred (some []))) →
    (∀ w', Upd (fun k => k ∈ Ds) w w' → w'.heap.size = w.heap.size → ∃ v, (results fn tmps).run P w' = .ok v w' ∧ R (.returned v) w') →
    LeavesInM Fence.wide n P fn tmps R (Ds.map mark) .returning w
  | [], w, _, _, h => h w (Upd.refl _ w) rfl
  | D :: Ds, w, hn, hd, h => by
    obtain ⟨hn1, hn2⟩ := List.nodup_cons.1 hn
    have hD := hd D (by simp)
    refine ⟨by simp, .inl ⟨D, w.putObj D (.deferred none), rfl, run_takeDeferred hD, leaves_marks Ds _ hn2 (fun E hE => ?_) (fun w' hu hs => h w' ?_ ?_)⟩⟩
    · exact (World.putObj_heap_other (by rintro rfl; exact hn1 hE)).trans (hd E (by simp [hE]))
    · exact (upd_putObj (S := fun k => k ∈ D :: Ds) w D _ (by simp)).step (hu.mono (fun k _ hk => by simp [hk]))
    · rw [hs]; simp [World.putObj]
theorem calls_marks {P : Program} {f : FuncId} {fn : Func} {c : Code} {args : Array Value} {w : World} {R : Ending → World → Prop} (hf : P.funcs[f]? = some fn) (hb : fn.body = some c)
    (h : c.wpIn Fence.wide 0 P (bodyPostM Fence.wide 0 P fn R) { tmps := args ++ Array.replicate (fn.ntmps - args.size) undef, defers := [] } w) : Calls P f args w R :=
  callsIn_wide.1 (callsIn_of_wp_marks hf hb trivial h rfl)
end Go.Proofs.YtkfnaahkfogcoaaDoor
