/- Whatever a program does, the count of the draws never falls: every step of the machine, so every call. -/
import Derived.Calls
import Derived.Lone
namespace Go.Proofs.YtcfmaeonginefaaGreatDoor.Drawn
open Go
set_option linter.unusedSimpArgs false
set_option linter.unusedVariables false

def gw : GStep → World
  | .go _ w _ => w
  | .comm _ _ _ _ w _ => w
  | .spawn _ _ w _ => w
  | .count _ w _ => w
  | .timer _ _ w _ => w
  | .alone _ _ w _ => w
  | .newcoro _ _ _ w _ => w
  | .coroswitch _ _ _ w _ => w
  | .collect _ w _ => w
  | .watch _ w _ => w
  | .ended _ w _ => w
def rwd {α : Type} : Result α → World
  | .ok _ w => w
  | .halt _ w => w

theorem ask_mono {α : Type} (a : Ask α) (w : World) : w.drawn ≤ (w.ask a).2.drawn := by
  induction a generalizing w with
  | done a => exact Nat.le_refl _
  | ask what range k ih =>
    simp only [World.ask]
    split
    · exact ih _ _
    · exact Nat.le_trans (Nat.le_succ _) (ih _ { w with drawn := w.drawn + 1 })
theorem sys_mono (w : World) (c : Sys) : w.drawn ≤ (w.sys c).2.drawn := by
  have h := ask_mono (Kernel.perform c w.os) w
  unfold World.sys
  split
  · exact Nat.le_refl _
  · rename_i hq _
    rw [‹w.ask _ = _›] at h
    exact h
theorem viewStore_drawn (p : Program) (w : World) (x : Addr) (u : TypeId) (k : Addr) (v : Value) (b : Bool) (w' : World) (l : List Addr) (h : w.viewStore p x u k v b = .ok (w', l)) : w'.drawn = w.drawn := by
  unfold World.viewStore at h
  simp only [bind, Except.bind, pure, Except.pure, throw, throwThe, MonadExceptOf.throw] at h
  repeat' first
    | (simp at h; done)
    | (simp only [Except.ok.injEq, Prod.mk.injEq] at h; obtain ⟨rfl, -⟩ := h; rfl)
    | split at h
theorem farStore_drawn (p : Program) (w : World) (a : Addr) (v : Value) (b : Bool) (w' : World) (l : List Addr) (h : w.farStore p a v b = .ok (w', l)) : w'.drawn = w.drawn := by
  unfold World.farStore at h
  split at h
  · split at h
    · rename_i r hr
      obtain rfl : r = (w', l) := by simpa using h
      exact viewStore_drawn p w _ _ _ _ _ _ _ hr
    · simp at h
  · simp at h
theorem run_mono {α : Type} (p : Program) (s : Sem α) (w : World) : w.drawn ≤ (rwd (s.run p w)).drawn := by
  induction s generalizing w with
  | pure a => exact Nat.le_refl _
  | load m a k ih =>
    simp only [Sem.run]
    split
    · exact ih _ _
    · split
      · exact ih _ _
      · exact Nat.le_refl _
  | store m a v k ih =>
    cases v <;> simp only [Sem.run]
    all_goals
      first
        | exact Nat.le_refl _
        | (split
           · split
             · exact Nat.le_refl _
             · exact ih (w.setCell a _)
           · split
             · rename_i w1 l hf
               have := farStore_drawn p w _ _ _ _ _ hf
               have := ih w1
               omega
             · exact Nat.le_refl _)
  | new o k ih => exact ih _ { w with heap := w.heap.push o }
  | shape r k ih => exact ih _ _
  | freeze a n k ih =>
    have h := ih (w.freeze a n)
    have e : (w.freeze a n).drawn = w.drawn := by unfold World.freeze; split <;> rfl
    rw [e] at h
    exact h
  | frozen a k ih => exact ih _ _
  | getObj r k ih =>
    simp only [Sem.run]
    split
    · exact Nat.le_refl _
    · exact ih _ _
    · exact Nat.le_refl _
  | setObj r o k ih =>
    simp only [Sem.run]
    split
    · exact Nat.le_refl _
    · exact ih { w with heap := w.heap.setIfInBounds r o }
    · exact Nat.le_refl _
  | choose q k ih =>
    simp only [Sem.run]
    split
    · exact ih _ _
    · exact Nat.le_trans (Nat.le_succ _) (ih _ { w with drawn := w.drawn + 1 })
  | sys c k ih => exact Nat.le_trans (sys_mono w c) (ih _ _)
  | program k ih => exact ih _ _
  | mark m k ih => exact ih _
  | halt h => exact Nat.le_refl _

@[simp] theorem gw_after (es : Array Event) (s : GStep) : gw (GStep.after es s) = gw s := by cases s <;> rfl

theorem ite_gw {c : Prop} [Decidable c] {a b : GStep} {n : Nat} (ha : n ≤ (gw a).drawn) (hb : n ≤ (gw b).drawn) : n ≤ (gw (if c then a else b)).drawn := by
  split
  · exact ha
  · exact hb
theorem endWith_mono (w : World) (fd : Nat) (t : ByteArray) (o : Outcome) : w.drawn ≤ (gw (endWith w fd t o)).drawn := by
  have h := sys_mono w (.write fd t)
  unfold endWith
  simp only []
  generalize w.sys (.write fd t) = x at h
  obtain ⟨r, w1⟩ := x
  cases r <;> simp only [] <;> first | exact h | (split <;> exact h)
theorem endPrinting_mono (p : Program) (fr : Frame) (v : Value) (w : World) : w.drawn ≤ (gw (endPrinting p fr v w)).drawn := by
  unfold endPrinting
  simp only []
  split <;> exact Nat.le_refl _
theorem endFatal_mono (p : Program) (fr : Frame) (cs : List Frame) (d : Option Dying) (m : String) (w : World) : w.drawn ≤ (gw (endFatal p fr cs d m w)).drawn := by
  unfold endFatal
  simp only []
  generalize hs : Sem.run p _ w = r
  have h : w.drawn ≤ (rwd r).drawn := by rw [← hs]; exact run_mono p _ w
  split <;> exact h
theorem writeOn_mono (p : Program) (fr : Frame) (d : Dying) (f : Fatal) (w : World) : w.drawn ≤ (gw (writeOn p fr d f w)).drawn := by
  unfold writeOn
  simp only []
  split
  · exact Nat.le_refl _
  · rw [Sem.runT_eq]
    generalize hs : Sem.run p _ w = r
    have h : w.drawn ≤ (rwd r).drawn := by rw [← hs]; exact run_mono p _ w
    cases r with
    | ok a w1 => exact h
    | halt x w1 => cases x <;> exact h
theorem die_mono (p : Program) (fr : Frame) (d : Dying) (w : World) : w.drawn ≤ (gw (die p fr d w)).drawn := by
  unfold die
  split
  · exact writeOn_mono _ _ _ _ _
  · split
    · split
      · exact Nat.le_refl _
      · exact endWith_mono _ _ _ _
    · simp only []
      split
      · exact Nat.le_refl _
      · rename_i s hs0
        have h := run_mono p (withAddress s) w
        generalize Sem.run p (withAddress s) w = r at h
        cases r <;> exact h
      · rw [Sem.runT_eq]
        generalize hs : Sem.run p _ w = r
        have h : w.drawn ≤ (rwd r).drawn := by rw [← hs]; exact run_mono p _ w
        simp only [gw_after]
        split
        all_goals first
          | exact h
          | exact Nat.le_refl _
          | exact Nat.le_trans h (endPrinting_mono _ _ _ _)
      · exact Nat.le_refl _
theorem doReturn_mono (p : Program) (main : Bool) (fr : Frame) (cs : List Frame) (d : Option Dying) (v : Value) (w : World) : w.drawn ≤ (gw (doReturn p main fr cs d v w)).drawn := by
  unfold doReturn
  repeat' split
  all_goals exact Nat.le_refl _
theorem callDeferred_mono (p : Program) (fr : Frame) (cs : List Frame) (dy : Option Dying) (d : Deferred) (w : World) : w.drawn ≤ (gw (callDeferred p fr cs dy d w)).drawn := by
  unfold callDeferred
  refine ite_gw (Nat.le_refl _) ?_
  · rw [Sem.runT_eq]
    generalize hs : Sem.run p _ w = r
    have h : w.drawn ≤ (rwd r).drawn := by rw [← hs]; exact run_mono p _ w
    simp only [gw_after]
    cases r with
    | ok n w1 =>
      cases n <;> (try simp only [])
      all_goals first
        | exact h
        | (split <;> exact h)
        | (rename_i on _; cases on <;> exact h)
        | (rename_i e; cases e <;> exact h)
    | halt x w1 =>
      cases x <;> (try simp only [])
      all_goals first
        | exact h
        | exact Nat.le_trans h (endFatal_mono _ _ _ _ _ _)
theorem unwind_mono (p : Program) (main : Bool) (fr : Frame) (cs : List Frame) (dy : Option Dying) (w : World) : w.drawn ≤ (gw (unwind p main fr cs dy w)).drawn := by
  unfold unwind
  split
  · rw [Sem.runT_eq]
    generalize hs : Sem.run p _ w = r
    have h : w.drawn ≤ (rwd r).drawn := by rw [← hs]; exact run_mono p _ w
    simp only [gw_after]
    cases r <;> exact h
  · exact callDeferred_mono _ _ _ _ _ _
  · split
    · exact Nat.le_refl _
    · split
      · exact Nat.le_refl _
      · split
        · exact Nat.le_refl _
        · split
          · split
            · exact Nat.le_refl _
            · generalize hs : Sem.run p _ w = r
              have h : w.drawn ≤ (rwd r).drawn := by rw [← hs]; exact run_mono p _ w
              split <;> exact h
          · split
            · exact endPrinting_mono _ _ _ _
            · exact Nat.le_refl _
    · split
      · exact doReturn_mono _ _ _ _ _ _ _
      · rw [Sem.runT_eq]
        generalize hs : Sem.run p _ w = r
        have h : w.drawn ≤ (rwd r).drawn := by rw [← hs]; exact run_mono p _ w
        simp only [gw_after]
        cases r with
        | ok v w1 => exact Nat.le_trans h (doReturn_mono _ _ _ _ _ _ _)
        | halt x w1 => cases x <;> exact h
theorem early_mono (p : Program) (fr : Frame) (cs : List Frame) (dy : Option Dying) (g : Nat) (w : World) : w.drawn ≤ (gw (early p fr cs dy g w)).drawn := by
  have hn : ∀ W : World, w.drawn ≤ W.drawn → w.drawn ≤ (gw (match W.heap[g]? with
      | some (.pending c elem) => GStep.go { frame := fr, callers := cs, status := .running, dying := dy } { W with heap := W.heap.setIfInBounds g (.cells c elem) }
      | _ => .ended (.stuck "early: the variable does not wait" (fr.pos p)) W)).drawn := by
    intro W hW
    split <;> exact hW
  unfold early
  simp only []
  split
  · exact hn w (Nat.le_refl _)
  · split
    · exact Nat.le_refl _
    · split
      · exact hn w (Nat.le_refl _)
      · split
        · exact hn w (Nat.le_refl _)
        · split
          · exact Nat.le_refl _
          · exact Nat.le_refl _
          · exact Nat.le_refl _
          · exact hn w (Nat.le_refl _)
          · split
            · exact Nat.le_refl _
            · split
              · exact hn w (Nat.le_refl _)
              · generalize hs : Sem.run p _ w = r
                have h : w.drawn ≤ (rwd r).drawn := by rw [← hs]; exact run_mono p _ w
                split
                · exact hn _ h
                · exact h
                · exact h
theorem run_ok {α : Type} {p : Program} {s : Sem α} {w w' : World} {a : α} (h : s.run p w = .ok a w') : w.drawn ≤ w'.drawn := by
  have := run_mono p s w
  rw [h] at this
  exact this
theorem run_halt {α : Type} {p : Program} {s : Sem α} {w w' : World} {x : Halt} (h : s.run p w = .halt x w') : w.drawn ≤ w'.drawn := by
  have := run_mono p s w
  rw [h] at this
  exact this
theorem apply_mono (p : Program) (fr : Frame) (cs : List Frame) (dy : Option Dying) (s : Sem Next) (w : World) (l : Bool) : w.drawn ≤ (gw (stepG.apply p l fr cs dy s w)).drawn := by
  have h := run_mono p s w
  unfold stepG.apply
  simp only [gw_after]
  have hr : (if l = true then s.runT p w #[] else (s.run p w, #[])).1 = s.run p w := by
    cases l
    · rfl
    · simp [Sem.runT_eq]
  rw [← hr] at h
  generalize (if l = true then s.runT p w #[] else (s.run p w, #[])) = x at h ⊢
  obtain ⟨r, es⟩ := x
  simp only [] at h ⊢
  cases r with
  | ok n w1 =>
    cases n <;> (try simp only [])
    all_goals first
      | exact h
      | (split <;> exact h)
      | (split <;> split <;> exact h)
  | halt x w1 =>
    cases x <;> (try simp only [])
    all_goals first
      | exact h
      | exact Nat.le_trans h (endFatal_mono _ _ _ _ _ _)
      | (split <;> first | exact Nat.le_trans h (early_mono _ _ _ _ _ _) | exact h)
      | (rename_i u; cases u <;> first | exact Nat.le_trans h (early_mono _ _ _ _ _ _) | exact h)
theorem oper_mono (p : Program) (l : Bool) (fr : Frame) (cs : List Frame) (dy : Option Dying) (w : World) : w.drawn ≤ (gw (stepG.oper p l fr cs dy w)).drawn := by
  unfold stepG.oper
  split
  · exact Nat.le_refl _
  · split <;> exact apply_mono _ _ _ _ _ _ _
theorem exec_mono (p : Program) (main : Bool) (l : Bool) (fr : Frame) (cs : List Frame) (dy : Option Dying) (w : World) : w.drawn ≤ (gw (stepG.exec p main l fr cs dy w)).drawn := by
  have hl : ∀ jump : Option Code, w.drawn ≤ (gw (match fr.roundOf with
      | none => if jump matches none | some .ret then (GStep.go { frame := { fr with mode := .returning }, callers := cs, status := .running, dying := dy } w) else .ended (.stuck "exit, goto: no such block or label" (fr.pos p)) w
      | some l =>
        GStep.after (seen p fr.fn ((Instr.endRound l jump).runT p w #[]).2) <| match ((Instr.endRound l jump).runT p w #[]).1 with
        | .ok v w => doReturn p main fr cs dy v w
        | .halt _ w => .ended (.stuck "range over a function: no such loop" (fr.pos p)) w)).drawn := by
    intro jump
    split
    · split <;> exact Nat.le_refl _
    · rw [Sem.runT_eq]
      simp only [gw_after]
      have h := run_mono p (Instr.endRound ‹_› jump) w
      generalize (Instr.endRound ‹_› jump).run p w = r at h ⊢
      cases r with
      | ok v w1 => exact Nat.le_trans h (doReturn_mono _ _ _ _ _ _ _)
      | halt x w1 => exact h
  unfold stepG.exec
  simp only []
  split
  case h_1 => exact hl none
  case h_2 => exact hl (some .ret)
  all_goals first
    | exact Nat.le_refl _
    | exact apply_mono _ _ _ _ _ _ _
    | skip
  case h_8 => split <;> exact Nat.le_refl _
  case h_13 => rename_i id k heq; generalize exitTo _ _ = o; cases o with
    | none => exact hl (some (Code.exit id))
    | some k => exact Nat.le_refl _
  case h_14 => rename_i id k heq; generalize gotoIn _ _ = o; cases o with
    | none => exact hl (some (Code.goto id))
    | some k => exact Nat.le_refl _
  case h_15 =>
    rw [Sem.runT_eq]
    generalize hs : Sem.run p _ w = r
    have h : w.drawn ≤ (rwd r).drawn := by rw [← hs]; exact run_mono p _ w
    simp only [gw_after]
    cases r with
    | ok x w1 => exact Nat.le_trans h (apply_mono _ _ _ _ _ _ _)
    | halt x w1 => exact h
  case h_18 =>
    rw [Sem.runT_eq]
    generalize hs : Sem.run p _ w = r
    have h : w.drawn ≤ (rwd r).drawn := by rw [← hs]; exact run_mono p _ w
    simp only [gw_after]
    cases r with
    | ok x w1 => exact h
    | halt x w1 => cases x <;> exact h
  case h_21 => generalize Extern.next _ = o; cases o with
    | none => exact Nat.le_refl _
    | some e => exact apply_mono _ _ _ _ _ _ _
  case h_22 =>
    refine ite_gw (Nat.le_refl _) ?_
    generalize hs : Sem.run p _ w = r
    have h : w.drawn ≤ (rwd r).drawn := by rw [← hs]; exact run_mono p _ w
    cases r <;> exact h
  case h_24 => exact ite_gw (oper_mono _ _ _ _ _ _) (Nat.le_refl _)
theorem stepG_mono (p : Program) (main : Bool) (g : Goroutine) (w : World) (l : Bool) : w.drawn ≤ (gw (stepG p main g w l)).drawn := by
  unfold stepG
  simp only []
  split
  · exact die_mono _ _ _ _
  · exact exec_mono _ _ _ _ _ _ _
  · exact unwind_mono _ _ _ _ _ _

theorem waitingAt_drawn {r : Rest} {c : Array CommCase} {w w' : World} (h : waitingAt r c w = some w') : w'.drawn = w.drawn := by
  unfold waitingAt at h
  split at h
  · split at h
    · cases h; rfl
    · cases h
  · cases h; rfl
theorem communicate_mono (p : Program) (rest : Rest) (gs : Array Goroutine) (i : Nat) (g : Goroutine) (cases : Array CommCase) (blocking : Bool)
    (shape : CommShape) (w : World) (m' : Machine) (h : (communicate p rest gs i g cases blocking shape w).1 = .next m') : w.drawn ≤ m'.world.drawn := by
  unfold communicate at h
  simp only [] at h
  repeat' first
    | (simp at h; done)
    | (simp only [Stepped.next.injEq] at h; subst h
       first
         | exact Nat.le_refl _
         | exact Nat.le_of_eq (waitingAt_drawn ‹_›).symm
         | (have hr := run_halt ‹Sem.run p _ _ = Result.halt _ _›; exact Nat.le_trans (run_ok ‹Sem.run p _ w = Result.ok _ _›) hr)
         | (have hr := run_ok ‹Sem.run p _ w = Result.ok _ _›; exact hr)
         | (rename_i hq; have hr := run_ok hq; exact Nat.le_trans (run_ok ‹Sem.run p _ w = Result.ok _ _›) hr))
    | split at h
theorem look_mono (p : Program) (gs : Array Goroutine) (rest : Rest) (w : World) (m' : Machine) (h : look p gs rest w = .next m') : w.drawn ≤ m'.world.drawn := by
  unfold look at h
  simp only [] at h
  repeat' first
    | (simp at h; done)
    | (simp only [Stepped.next.injEq] at h; subst h
       first
         | exact Nat.le_refl _
         | (have hr := run_ok ‹Sem.run p _ w = Result.ok _ _›; exact hr))
    | split at h
theorem retime_drawn (m : Machine) (k : Nat) (t : Timer) (a b : Nat) : (retime m k t a b).2.world.drawn = m.world.drawn := by
  unfold retime
  simp only []
  split
  · unfold drain; split <;> rfl
  · rfl
theorem timerOp_drawn (m : Machine) (op : TimerOp) (v : Value) (m' : Machine) (h : timerOp m op = .ok (v, m')) : m'.world.drawn = m.world.drawn := by
  have hn : ∀ (M : Machine) (a : Addr) (f : Nat → Timer → Value × Machine), (∀ k t, (f k t).2.world.drawn = m.world.drawn) → ∀ v m', timerOp.named M a f = .ok (v, m') → m'.world.drawn = m.world.drawn := by
    intro M a f hf v m' h
    unfold timerOp.named at h
    split at h
    · simp only [Except.ok.injEq] at h
      have := hf ‹_› (M.rest.timers.getD ‹_› default)
      rw [h] at this
      exact this
    · cases h
  unfold timerOp at h
  split at h
  · split at h
    · cases h; rfl
    · split at h
      · split at h
        · cases h
        · cases h; rfl
      · cases h
  · exact hn _ _ _ (fun k t => retime_drawn _ _ _ _ _) _ _ h
  · split at h
    · rename_i m1 ho
      have e : m1.world.drawn = m.world.drawn := by
        unfold timerOp.opened at ho
        split at ho
        · split at ho
          · cases ho; rfl
          · cases ho
        · cases ho; rfl
      exact hn _ _ _ (fun k t => (retime_drawn _ _ _ _ _).trans e) _ _ h
    · cases h
  · simp only [] at h
    cases h; rfl
theorem endThrow_go {fr : Frame} {m : String} {w w' : World} {g : Goroutine} {es : Array Event} (h : endThrow fr m w = .go g w' es) : w' = w := by
  unfold endThrow dieOf at h
  cases h
  rfl
theorem runT_mono (p : Program) (m m' : Machine) (i : Nat) (b : Bool) (h : (runT p m i b).1 = .next m') : m.world.drawn ≤ m'.world.drawn := by
  simp only [runT] at h
  revert h
  generalize m.gs.swapAt! _ _ = gg
  have hs := stepG_mono p (i == 0) gg.1 m.world b
  generalize stepG p _ gg.1 m.world b = s at hs
  intro h
  cases s <;> simp only [] at h
  all_goals first
    | (simp at h; done)
    | (have := communicate_mono _ _ _ _ _ _ _ _ _ _ h; exact Nat.le_trans hs this)
    | (have := look_mono _ _ _ _ _ h; exact Nat.le_trans hs this)
    | (simp only [Stepped.next.injEq] at h; subst h; exact hs)
    | (repeat' first
        | (simp at h; done)
        | (simp only [Stepped.next.injEq] at h; subst h
           first
             | exact hs
             | (have := timerOp_drawn _ _ _ _ ‹timerOp _ _ = Except.ok _›; exact Nat.le_trans hs (Nat.le_of_eq this.symm))
             | (have := endThrow_go ‹endThrow _ _ _ = GStep.go _ _ _›; subst this; exact hs))
        | split at h)
theorem serve_mono (p : Program) (m m' : Machine) (k : Nat) (h : serve p m k = .next m') : m.world.drawn ≤ m'.world.drawn := by
  unfold serve at h
  simp only [] at h
  repeat' first
    | (simp at h; done)
    | (simp only [Stepped.next.injEq] at h; subst h; exact Nat.le_refl _)
    | split at h
theorem askOn_mono (p : Program) (m m' : Machine) (ops : Array MemOp) (h : askOn p m = .machine (.next m') ops) : m.world.drawn ≤ m'.world.drawn := by
  unfold askOn at h
  simp only [] at h
  repeat' first
    | (simp at h; done)
    | (simp only [Move.machine.injEq] at h; have := serve_mono _ _ _ _ h.1; exact Nat.le_trans (run_ok (by assumption)) this)
    | (simp only [Move.machine.injEq, Stepped.next.injEq] at h; obtain ⟨rfl, _⟩ := h
       simp only [Machine.advanceTo]
       repeat first
         | exact Nat.le_refl _
         | refine Nat.le_trans ?_ (run_ok (by assumption))
         | simp only [Machine.advanceTo])
    | split at h
theorem askOn_go (p : Program) (m m' : Machine) (i : Nat) (h : askOn p m = .goroutine m' i) : m.world.drawn ≤ m'.world.drawn := by
  unfold askOn at h
  simp only [] at h
  repeat' first
    | (simp at h; done)
    | (simp only [Move.goroutine.injEq] at h; obtain ⟨rfl, _⟩ := h
       (try simp only [Machine.advanceTo])
       repeat first
         | exact Nat.le_refl _
         | refine Nat.le_trans ?_ (run_ok (by assumption))
         | simp only [Machine.advanceTo])
    | split at h
theorem ask_le (p : Program) (m : Machine) : (∃ m2, m.world.drawn ≤ m2.world.drawn ∧ ask p m = askOn p m2) ∨ (∃ o w, ask p m = .machine (.ended o w) #[]) := by
  unfold ask
  split
  · have h := run_mono p (choose (.extern "collector.look" 2)) m.world
    generalize Sem.run p (choose (.extern "collector.look" 2)) m.world = r at h ⊢
    cases r with
    | halt x w => exact .inr ⟨_, _, rfl⟩
    | ok k w1 =>
      rcases k with _ | _ | k
      · exact .inl ⟨{ m with world := w1 }, h, rfl⟩
      · show (∃ m2, m.world.drawn ≤ m2.world.drawn ∧ (match look p m.gs m.rest w1 with | .next m => askOn p m | e => Move.machine e) = askOn p m2) ∨
          (∃ o w, (match look p m.gs m.rest w1 with | .next m => askOn p m | e => Move.machine e) = .machine (.ended o w) #[])
        cases hl : look p m.gs m.rest w1 with
        | next m2 => exact .inl ⟨m2, Nat.le_trans h (look_mono _ _ _ _ _ hl), rfl⟩
        | ended o w => exact .inr ⟨o, w, rfl⟩
      · exact .inl ⟨{ m with world := w1 }, h, rfl⟩
  · exact .inl ⟨m, Nat.le_refl _, rfl⟩
theorem step_mono (p : Program) (m m' : Machine) (h : step p m = .next m') : m.world.drawn ≤ m'.world.drawn := by
  have ha : ∀ M : Machine, M.world.drawn = m.world.drawn → (match ask p M with | .goroutine m i => runT p m i | .machine s ops => (s, ops)).1 = .next m' → m.world.drawn ≤ m'.world.drawn := by
    intro M hM h
    rw [← hM]
    rcases ask_le p M with ⟨m2, h2, e⟩ | ⟨o, w, e⟩
    · rw [e] at h
      cases hk : askOn p m2 with
      | goroutine m3 i =>
        rw [hk] at h
        exact Nat.le_trans h2 (Nat.le_trans (askOn_go _ _ _ _ hk) (runT_mono _ _ _ _ _ h))
      | machine s ops =>
        rw [hk] at h
        simp only [] at h
        subst h
        exact Nat.le_trans h2 (askOn_mono _ _ _ _ hk)
    · rw [e] at h; simp at h
  unfold step stepT move at h
  cases ha1 : m.rest.alone with
  | some i =>
    rw [ha1] at h
    simp only [] at h
    by_cases hc : (m.gs[i]?).any (·.status == .running) = true
    · rw [if_pos hc] at h
      exact runT_mono _ _ _ _ _ h
    · rw [if_neg hc] at h
      simp at h
  | none =>
    rw [ha1] at h
    simp only [] at h
    cases hs : m.rest.slice with
    | none => rw [hs] at h; exact ha m rfl h
    | some q =>
      obtain ⟨i, n⟩ := q
      rw [hs] at h
      cases n with
      | zero => exact ha m rfl h
      | succ n =>
        simp only [] at h
        by_cases hc : (m.gs[i]?).any (·.canRun m.world.os.mono) = true
        · rw [if_pos hc] at h
          exact runT_mono _ { m with rest := { m.rest with slice := if n = 0 then none else some (i, n) } } _ _ _ h
        · rw [if_neg hc] at h
          exact ha { m with rest := { m.rest with slice := none } } rfl h
theorem steps_mono {P : Program} {m m' : Machine} (h : Steps P m m') : m.world.drawn ≤ m'.world.drawn := by
  obtain ⟨n, hn⟩ := h
  induction n generalizing m with
  | zero => simp [runN] at hn; rw [hn]; exact Nat.le_refl _
  | succ n ih =>
    simp only [runN] at hn
    cases hs : step P m with
    | next m1 => rw [hs] at hn; exact Nat.le_trans (step_mono _ _ _ hs) (ih hn)
    | ended o w => rw [hs] at hn; simp at hn
/-- A call that returns draws no fewer than none. -/
theorem calls_drawn {P : Program} {f : FuncId} {args : Array Value} {w : World} {R : Ending → World → Prop} (h : Calls P f args w R) :
    Calls P f args w fun e w' => R e w' ∧ ((∃ v, e = .returned v) → w.drawn ≤ w'.drawn) := by
  intro cs
  obtain ⟨e, w', fr, hr, hc, h1, h2⟩ := h cs
  refine ⟨e, w', fr, ⟨hr, ?_⟩, hc, h1, h2⟩
  rintro ⟨v, rfl⟩
  exact steps_mono hc
end Go.Proofs.YtcfmaeonginefaaGreatDoor.Drawn
