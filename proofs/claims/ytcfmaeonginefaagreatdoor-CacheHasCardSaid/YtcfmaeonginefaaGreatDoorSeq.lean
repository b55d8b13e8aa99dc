/- Ranges over iterators that keep a state of their own in a box: the iterator's contract ('SeqX') and the law of the loop over it. Over any program. -/
import Derived.RangeFuncNested
import Derived.RangeFuncBound
import Derived.RangeFuncCalls
import Derived.RangeFuncLeaves
import Derived.RangeFuncBox
import Derived.Maps.AppendAt
import Derived.Deep.Draws
namespace Go.Proofs.YtcfmaeonginefaaGreatDoor.Seq
open Go Go.RowKit

/-- The caller's invariant abides whatever is done to the iterator's own blocks (X), and the turn of a block at or beyond B that holds no cells. -/
def AbidesX {β : Type} (B : Nat) (X : Nat → Prop) (I : β → World → Prop) : Prop :=
  ∀ s W W' row, I s W → W.grownBy W' row → (∀ r, row = some r → X r ∨ (B ≤ r ∧ ∃ o : Obj, W.heap[r]? = some o ∧ o.isCells = false)) → I s W'

theorem AbidesX.putObj {β : Type} {B : Nat} {X : Nat → Prop} {I : β → World → Prop} (h : AbidesX B X I) {s : β} {W : World} {l : Nat} {o : Obj} (o' : Obj) (hs : I s W) (hB : B ≤ l) (hl : W.heap[l]? = some o) (ho : o.isCells = false) : I s (W.putObj l o') :=
  h s W _ (some l) hs (grownBy_putObj' W l o') (fun r e => by cases e; exact .inr ⟨hB, o, hl, ho⟩)
theorem AbidesX.alloc {β : Type} {B : Nat} {X : Nat → Prop} {I : β → World → Prop} (h : AbidesX B X I) {s : β} {W : World} (o : Obj) (hs : I s W) : I s (W.alloc o) :=
  h s W _ none hs (World.grownBy_alloc W o none) (fun r e => by cases e)
theorem AbidesX.and {β : Type} {B : Nat} {X : Nat → Prop} {I I' : β → World → Prop} (h : AbidesX B X I) (h' : AbidesX B X I') : AbidesX B X (fun s W => I s W ∧ I' s W) :=
  fun s W W' row hs hg hr => ⟨h s W W' row hs.1 hg hr, h' s W W' row hs.2 hg hr⟩
theorem abidesX_pure {β : Type} {B : Nat} {X : Nat → Prop} (p : β → Prop) : AbidesX B X (fun s _ => p s) := fun _ _ _ _ h _ _ => h

/-- The iterator's contract: it tells the elements xs, in their order. X: its own blocks; Kp: what a round that goes on must keep. -/
def SeqX {α : Type} (F : Fence) (n : Nat) (P : Program) (g : Nat) (lb : Array Value) (encs : α → Array Value) (X : Nat → Prop) (Kp : World → World → Prop) (xs : List α) (W : World) : Prop :=
  ∀ (l : Nat) (J Jx : List α → World → Prop),
    (∀ s A B row, J s A → A.grownBy B row → (∀ r, row = some r → X r) → J s B) →
    (∀ s A B row, Jx s A → A.grownBy B row → (∀ r, row = some r → X r) → Jx s B) →
    (∀ pre x post W1, xs = pre ++ x :: post → J pre W1 → YieldAt F (n - 1) P l (encs x) W1 fun e W' =>
      (e = .returned (.bool true) ∧ J (pre ++ [x]) W' ∧ Kp W1 W') ∨ (e = .returned (.bool false) ∧ Jx (pre ++ [x]) W')) →
    ∀ W1, W.grownBy W1 none → J [] W1 →
    CallsIn F n P g (#[.func (.yield l) #[] #[]] ++ lb) W1 fun e W' => (∃ v, e = .returned v) ∧ (J xs W' ∨ ∃ pre x post, xs = pre ++ x :: post ∧ Jx (pre ++ [x]) W')

/-- How the body of a round may be left. -/
def postX {α : Type} (B : Nat) (Kp : World → World → Prop) (I : List α → World → Prop) (Ix : Code → List α → World → Prop) (xs : List α) (W : World) : Exit → Act → World → Prop
  | .normal, _, W' => KeepsFrom B W W' ∧ Kp W W' ∧ I xs W'
  | .ret, _, W' => KeepsFrom B W W' ∧ Ix .ret xs W'
  | .exit id, _, W' => KeepsFrom B W W' ∧ Ix (.exit id) xs W'
  | .goto t, _, W' => KeepsFrom B W W' ∧ Ix (.goto t) xs W'
  | .panic _, _, _ => False
  | .outgrown, _, _ => False

theorem keepsX {W W' : World} {row : Option Nat} (hg : W.grownBy W' row) {k : Nat} {o : Obj} (hk : W.heap[k]? = some o) (hr : ∀ r, row = some r → r ≠ k) : W'.heap[k]? = some o :=
  (hg.block k (Array.getElem?_eq_some_iff.1 hk).1 (fun e => hr k e.symm rfl)).trans hk

variable {F : Fence} {n : Nat} {P : Program}

set_option maxHeartbeats 1000000 in
/-- The loop 'for .. := range seq' over an iterator that 'SeqX'. -/
theorem wpIn_rangeFunc_X {α : Type} {g : Operand} {ps : Array Tmp} {assign body : Code} {Q : Exit → Act → World → Prop} {a : Act} {w : World}
    (hro : F.round = none) (h1 : 1 ≤ n) {gf : Nat} {lb : Array Value} (hg : a.eval g = .func (.func gf) #[] lb) (hFg : F.fn gf) (eg : ∀ args w, (callFunc gf args).run P w = .ok (.enter gf args) w)
    {encs : α → Array Value} {X : Nat → Prop} {Kp : World → World → Prop} {xs : List α} (hseq : SeqX F (n - 1) P gf lb encs X Kp xs w) (hX : ∀ r, X r → r < w.heap.size)
    (hKt : ∀ {A B C : World}, Kp A B → Kp B C → Kp A C) (hKb : ∀ (W : World) (l : Nat) (o o' : Obj), w.heap.size ≤ l → W.heap[l]? = some o → o.isCells = false → o.isWalk = false → Kp W (W.putObj l o')) (hps : ∀ x, (encs x).size = ps.size)
    (I : List α → World → Prop) (Ix : Code → List α → World → Prop) (hI : AbidesX w.heap.size X I) (hIx : ∀ c, AbidesX w.heap.size X (Ix c)) (h0 : I [] w) (a₁ : α → Act)
    (hassign : ∀ (l : Nat) (x : α) (W : World) (K : Act → World → Prop), K (a₁ x) W →
      assign.wpIn (F.inRound l) (n - 1 - 1) P (Exit.then K (fun _ _ _ => False)) { tmps := (ps.zip (encs x)).foldl (fun t (p, v) => t.setIfInBounds p v) a.tmps, defers := [] } W)
    (hbody : ∀ (l : Nat) (pre : List α) (x : α) (post : List α) (W : World), xs = pre ++ x :: post → I pre W → body.wpIn (F.inRound l) (n - 1 - 1) P (postX w.heap.size Kp I Ix (pre ++ [x]) W) (a₁ x) W)
    (hdone : ∀ (D : Nat) (W : World), w.heap.size ≤ D → I xs W → W.heap[D]? = some (.deferred (some [])) → Q .normal { a with defers := { target := .collected D, args := #[] } :: a.defers } W)
    (hstop : ∀ (D : Nat) (c : Code) (pre : List α) (x : α) (post : List α) (W : World), w.heap.size ≤ D → xs = pre ++ x :: post → Ix c (pre ++ [x]) W → W.heap[D]? = some (.deferred (some [])) → c.wpIn F n P Q { a with defers := { target := .collected D, args := #[] } :: a.defers } W) :
    (Code.rangeFunc g ps assign body).wpIn F n P Q a w := by
  refine wpIn_rangeFunc ?_
  intro fn hfn
  rw [hro]
  obtain ⟨rec, hrec⟩ : ∃ rec : LoopState → Option Code → Loop, rec = fun st pe => { state := st, pending := pe, fn, tmps := a.tmps, params := ps, assign, body, defers := w.heap.size } := ⟨_, rfl⟩
  obtain ⟨W1, hW1⟩ : ∃ W1, (w.alloc (.deferred (some []))).alloc (.loop (rec .ready none)) = W1 := ⟨_, rfl⟩
  have hL1 : W1.heap[w.heap.size + 1]? = some (.loop (rec .ready none)) := by
    rw [← hW1]; have := World.alloc_heap_new (w.alloc (.deferred (some []))) (.loop (rec .ready none)); rwa [World.size_alloc] at this
  have hK1 : W1.heap[w.heap.size]? = some (.deferred (some [])) := by
    rw [← hW1]; exact (Below.heap_alloc _ _ _ (by simp)).trans (World.alloc_heap_new w _)
  have hI1 : I [] W1 := by rw [← hW1]; exact hI.alloc _ (hI.alloc _ h0)
  have hgW : w.grownBy W1 none := by rw [← hW1]; exact (World.grownBy_alloc w _ none).trans (World.grownBy_alloc _ _ none)
  refine ⟨w.heap.size + 1, [{ target := .collected w.heap.size, args := #[] }], W1, { target := .fn (.func gf) lb, args := #[.func (.yield (w.heap.size + 1)) #[] #[]] }, W1, gf,
    #[.func (.yield (w.heap.size + 1)) #[] #[]] ++ lb, W1, ?_, ?_, ?_, ?_, fun _ => h1, ?_⟩
  · rw [← hW1, hrec]; exact run_enterLoop_outer _ _ _ _ _
  · simp only [resolve, hg]
    simp [go_sem]
  · intro f' hf'; simp [Target.leads] at hf'; subst hf'; exact hFg
  · simp [invoke, go_sem, eg]
  · have hne : ∀ {row : Option Nat} {k : Nat}, w.heap.size ≤ k → (∀ r, row = some r → X r) → ∀ r, row = some r → r ≠ k := fun hk hr r e => by have := hX r (hr r e); omega
    refine (hseq (w.heap.size + 1)
      (fun pre W => I pre W ∧ W.heap[w.heap.size + 1]? = some (.loop (rec .ready none)) ∧ W.heap[w.heap.size]? = some (.deferred (some [])))
      (fun pre W => ∃ c, Ix c pre W ∧ W.heap[w.heap.size + 1]? = some (.loop (rec .done (some c))) ∧ W.heap[w.heap.size]? = some (.deferred (some [])))
      (fun s A B row hs hg' hr => ⟨hI s A B row hs.1 hg' (fun r e => .inl (hr r e)), keepsX hg' hs.2.1 (hne (by omega) hr), keepsX hg' hs.2.2 (hne (by omega) hr)⟩)
      (fun s A B row hs hg' hr => by
        obtain ⟨c, hc, hl, hk⟩ := hs
        exact ⟨c, hIx c s A B row hc hg' (fun r e => .inl (hr r e)), keepsX hg' hl (hne (by omega) hr), keepsX hg' hk (hne (by omega) hr)⟩)
      ?_ W1 hgW ⟨hI1, hL1, hK1⟩).mono ?_
    · rintro pre x post W hxs ⟨hi, hl, hk⟩
      have hlt : w.heap.size + 1 < W.heap.size := (Array.getElem?_eq_some_iff.1 hl).1
      have hy := run_yield (P := P) (args := encs x) hl (by rw [hrec]; exact hps x)
      rw [hrec] at hy
      refine ⟨fn, _, assign, body, hy, roundIn_of_wpIn hfn (hassign _ x W _ ⟨_, run_beginRound hl (by rw [hrec]), ?_⟩)⟩
      have hl2 : (W.putObj (w.heap.size + 1) (.loop { rec .ready none with state := .busy })).heap[w.heap.size + 1]? = some (.loop { rec .ready none with state := .busy }) := World.putObj_heap_same hlt
      have hk2 : (W.putObj (w.heap.size + 1) (.loop { rec .ready none with state := .busy })).heap[w.heap.size]? = some (.deferred (some [])) := (World.putObj_heap_other (by omega)).trans hk
      have hw2 : Kp W (W.putObj (w.heap.size + 1) (.loop { rec .ready none with state := .busy })) := hKb _ _ _ _ (by omega) hl rfl rfl
      refine wpIn_mono (hbody _ pre x post _ hxs (hI.putObj _ hi (by omega) hl rfl)) ?_
      have fin : ∀ (jump : Option Code) (W3 : World), KeepsFrom w.heap.size (W.putObj (w.heap.size + 1) (.loop { rec .ready none with state := .busy })) W3 →
          (Instr.endRound (w.heap.size + 1) jump).run P W3 = .ok (.bool jump.isNone) (W3.putObj (w.heap.size + 1) (.loop (rec (if jump.isNone then .ready else .done) jump))) ∧
          W3.heap[w.heap.size + 1]? = some (.loop { rec .ready none with state := .busy }) ∧
          (W3.putObj (w.heap.size + 1) (.loop (rec (if jump.isNone then .ready else .done) jump))).heap[w.heap.size + 1]? = some (.loop (rec (if jump.isNone then .ready else .done) jump)) ∧
          (W3.putObj (w.heap.size + 1) (.loop (rec (if jump.isNone then .ready else .done) jump))).heap[w.heap.size]? = some (.deferred (some [])) := fun jump W3 hk3 => by
        have hl3 := hk3.same _ _ (by omega) hl2 rfl
        have := run_endRound (P := P) jump hl3
        rw [hrec] at this ⊢
        exact ⟨this, by rw [hrec] at hl3; exact hl3, World.putObj_heap_same (Array.getElem?_eq_some_iff.1 hl3).1, (World.putObj_heap_other (by omega)).trans (hk3.same _ _ (Nat.le_refl _) hk2 rfl)⟩
      rintro e a3 W3 hp
      cases e with
      | normal =>
        obtain ⟨hk3, hkp3, hi3⟩ := hp
        obtain ⟨hr, hl3, hl4, hk4⟩ := fin none W3 hk3
        exact ⟨_, _, hr, .inl ⟨rfl, ⟨hI.putObj _ hi3 (by omega) hl3 rfl, hl4, hk4⟩, hKt (hKt hw2 hkp3) (hKb _ _ _ _ (by omega) hl3 rfl rfl)⟩⟩
      | ret =>
        obtain ⟨hk3, hi3⟩ := hp
        obtain ⟨hr, hl3, hl4, hk4⟩ := fin (some .ret) W3 hk3
        exact ⟨_, _, hr, .inr ⟨rfl, .ret, (hIx _).putObj _ hi3 (by omega) hl3 rfl, hl4, hk4⟩⟩
      | exit id =>
        obtain ⟨hk3, hi3⟩ := hp
        obtain ⟨hr, hl3, hl4, hk4⟩ := fin (some (.exit id)) W3 hk3
        exact ⟨_, _, hr, .inr ⟨rfl, .exit id, (hIx _).putObj _ hi3 (by omega) hl3 rfl, hl4, hk4⟩⟩
      | goto t =>
        obtain ⟨hk3, hi3⟩ := hp
        obtain ⟨hr, hl3, hl4, hk4⟩ := fin (some (.goto t)) W3 hk3
        exact ⟨_, _, hr, .inr ⟨rfl, .goto t, (hIx _).putObj _ hi3 (by omega) hl3 rfl, hl4, hk4⟩⟩
      | panic ch => exact hp.elim
      | outgrown => exact hp.elim
    · rintro e W2 ⟨⟨v, rfl⟩, (⟨hi, hl, hk⟩ | ⟨pre, x, post, hxs, c, hi, hl, hk⟩)⟩
      · exact ⟨none, _, by have := run_endLoop (P := P) hl (by rw [hrec]; simp); rw [hrec] at this; exact this, hdone _ _ (Nat.le_refl _) (hI.putObj _ hi (by omega) hl rfl) ((World.putObj_heap_other (by omega)).trans hk)⟩
      · exact ⟨some c, _, by have := run_endLoop (P := P) hl (by rw [hrec]; simp); rw [hrec] at this; exact this, hstop _ c pre x post _ (Nat.le_refl _) hxs ((hIx c).putObj _ hi (by omega) hl rfl) ((World.putObj_heap_other (by omega)).trans hk)⟩

/-- What a round keeps of one box, the iterator's own. -/
def KeepsBox (B : Nat) (W W' : World) : Prop := W'.heap[B]? = W.heap[B]?
theorem keepsBox_t {B : Nat} {X Y Z : World} (h : KeepsBox B X Y) (k : KeepsBox B Y Z) : KeepsBox B X Z := Eq.trans k h
theorem keepsBox_b {B : Nat} {w : World} (hB : B < w.heap.size) (W : World) (l : Nat) (o o' : Obj) (hl : w.heap.size ≤ l) (_ : W.heap[l]? = some o) (_ : o.isCells = false) (_ : o.isWalk = false) : KeepsBox B W (W.putObj l o') :=
  World.putObj_heap_other (by omega)
theorem KeepsBox.refl (B : Nat) (W : World) : KeepsBox B W W := rfl
theorem KeepsBox.of_grownBy {B : Nat} {W W' : World} {row : Option Nat} (hB : B < W.heap.size) (hg : W.grownBy W' row) (hr : some B ≠ row) : KeepsBox B W W' := hg.block B hB hr
/-- 'Below' abides, where the iterator's own box lies at or beyond the bound. -/
theorem abidesX_below {β : Type} {n₀ B Bs : Nat} {w : World} (h0 : n₀ ≤ w.heap.size) (hB : n₀ ≤ B) (hs : n₀ ≤ Bs) : AbidesX (β := β) B (· = Bs) (fun _ W => Below n₀ w W) :=
  fun _ W W' row h hg hr => h.grown hg (by have := h.size; omega) (fun k e => by
    rcases hr k e with rfl | ⟨hk, _⟩
    · exact hs
    · omega)
theorem abidesX_box {β : Type} {B Bs Bv : Nat} {t : TypeId} (v : β → Value) (hne : Bv ≠ Bs) (hlt : Bv < B) : AbidesX (β := β) B (· = Bs) (fun s W => Boxed W Bv t (v s)) :=
  fun s W W' row h hg hr => h.kept hg (fun e => by
    rcases hr Bv e.symm with h | ⟨h, _⟩
    · exact hne h
    · omega)

theorem grownBy_drewN (W : World) (q : Nat) (row : Option Nat) : W.grownBy (W.drewN q) row := ⟨rfl, rfl, rfl, Nat.le_refl _, fun _ _ _ => rfl⟩
theorem Boxed.drewN {W : World} {B : Nat} {t : TypeId} {v : Value} (h : Boxed W B t v) (q : Nat) : Boxed (W.drewN q) B t v := h
/-- A box lies on behind the turn of another block. -/
theorem Boxed.putObj {W : World} {B D : Nat} {t : TypeId} {v : Value} (h : Boxed W B t v) (o : Obj) (hne : B ≠ D) : Boxed (W.putObj D o) B t v := h.kept (grownBy_putObj' W D o) (fun e => by cases e; exact hne rfl)
/-- The function's end, where one range over a function has been left. -/
theorem leaveM {fn : Func} {tmps : Array Value} {R : Ending → World → Prop} {D : Nat} {W : World} {v : Value} (hK : W.heap[D]? = some (.deferred (some [])))
    (hr : (results fn tmps).run P (W.putObj D (.deferred none)) = .ok v (W.putObj D (.deferred none))) (hR : R (.returned v) (W.putObj D (.deferred none))) :
    LeavesInM F n P fn tmps R [{ target := .collected D, args := #[] }] .returning W :=
  ⟨by simp, .inl ⟨_, _, rfl, run_takeDeferred hK, v, hr, hR⟩⟩
/-- Behind a range: what lay below n₀ lies as it lay. -/
theorem below_leave {n₀ : Nat} {w W : World} {D : Nat} (h : Below n₀ w W) (hD : n₀ ≤ D) (hK : W.heap[D]? = some (.deferred (some []))) (o : Obj) : Below n₀ w (W.putObj D o) :=
  h.grown (grownBy_putObj' W D o) (by have := (Array.getElem?_eq_some_iff.1 hK).1; omega) (fun k e => by cases e; exact hD)
theorem gone {W : World} {B D : Nat} {t : TypeId} {v : Value} (h : Boxed W B t v) (hK : W.heap[D]? = some (.deferred (some []))) : B ≠ D := by
  rintro rfl; rw [show W.heap[B]? = _ from h] at hK; cases hK

#print axioms wpIn_rangeFunc_X
end Go.Proofs.YtcfmaeonginefaaGreatDoor.Seq
