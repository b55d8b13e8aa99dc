/- A region that draws its order, walked by an invariant over what has come up: inside whatever fence, a round's too. Over any program. -/
import Derived.OrdersIn
import Derived.CallsIn
import Derived.Deep.Draws
import Derived.OwnWalkIn
import Derived.Maps.AppendAt
namespace Go.Proofs.YtcfmaeonginefaaGreatDoor.Region
open Go

variable {F : Fence} {n : Nat} {P : Program} {ops : Array Oper} {Q : Exit → Act → World → Prop}

theorem count_zero {l : Array Bool} (h : l.toList.countP (fun b => !b) = 0) (i : Nat) : l.getD i true = true := by
  rw [List.countP_eq_zero] at h
  by_cases hi : i < l.size
  · have := h l[i] (by simp)
    simp [hi]; simpa using this
  · simp [hi]
theorem count_set {l : Array Bool} {i : Nat} (h : l.getD i true = false) : (l.setIfInBounds i true).toList.countP (fun b => !b) + 1 = l.toList.countP (fun b => !b) := by
  by_cases hi : i < l.size
  · have hl : l.toList[i]'(by simpa using hi) = false := by simpa [hi] using h
    have hp : 0 < l.toList.countP (fun b => !b) := List.countP_pos_iff.2 ⟨false, by rw [← hl]; simp, rfl⟩
    rw [Array.toList_setIfInBounds, List.countP_set (by simpa using hi), hl]
    simp only [Bool.not_false, Bool.not_true, if_true, Bool.false_eq_true, if_false]
    omega
  · simp [hi] at h

/-- Every edge leads back. -/
def lexOk (ops : Array Oper) : Bool := (List.range ops.size).all fun i => match ops[i]? with
  | some o => o.after.toList.all fun e => !Region.binds .any e || decide (e.on < i)
  | none => true
theorem lexOk_spec {ops : Array Oper} (h : lexOk ops = true) (i : Nat) (o : Oper) (ho : ops[i]? = some o) (e : Edge) (he : e ∈ o.after) (hb : Region.binds .any e = true) : e.on < i := by
  unfold lexOk at h
  have hi : i < ops.size := (Array.getElem?_eq_some_iff.1 ho).1
  have h1 := List.all_eq_true.1 h i (List.mem_range.2 hi)
  rw [ho] at h1
  have h2 := List.all_eq_true.1 h1 e (by simpa using he)
  rw [hb] at h2
  simpa using h2

theorem region_inv {id : Nat} {a : Act} {w : World} (hm : P.follows .mixedOrders = true)
    (hlex' : lexOk ops = true)
    (Inv : (Nat → Bool) → Act → World → Prop) (h0 : Inv (fun _ => false) a w.drew)
    (hs : ∀ (L : Nat → Bool) (a : Act) (w : World) (i : Nat) (o : Oper) (K : Act → World → Prop), ops[i]? = some o → Inv L a w → L i = false →
      (∀ e ∈ o.after, Region.binds .any e = true → L e.on = true) → (∀ (j : Nat) (o : Oper), ops[j]? = some o → L j = true → ∀ e ∈ o.after, Region.binds .any e = true → L e.on = true) → (∀ a' w', Inv (fun j => if j = i then true else L j) a' w' → K a' w') →
      if Region.wanted o (yielded ops a.tmps) = true then o.wpIn F n P a w K Q else (∀ f, o.about P w a.eval = some f → F.fn f) ∧ K (a.put o.dst undef) w)
    (hd : ∀ (L : Nat → Bool) (a : Act) (w : World), Inv L a w → (∀ i, i < ops.size → L i = true) → Q .normal a w) :
    (Code.region id ops true).wpIn F n P Q a w := by
  have hlex := lexOk_spec hlex'
  refine wpIn_region_any hm ?_
  have aux : ∀ (fuel : Nat) (l : Array Bool) (a : Act) (w : World), l.size = ops.size → l.toList.countP (fun b => !b) ≤ fuel → (∀ (j : Nat) (o : Oper), ops[j]? = some o → l.getD j false = true → ∀ e ∈ o.after, Region.binds .any e = true → l.getD e.on false = true) → Inv (fun i => l.getD i false) a w → wpAnyIn F n P .any ops Q fuel l a w := by
    have hall : ∀ (l : Array Bool), l.size = ops.size → Region.ready .any ops l = [] → ∀ i, i < ops.size → l.getD i false = true := by
      intro l hl hr i
      induction i using Nat.strongRecOn with
      | ind i ih =>
        intro hi
        cases hb : l.getD i false with
        | true => rfl
        | false =>
          have : i ∈ Region.ready .any ops l := mem_ready.2 ⟨by simpa [hl, hi] using hb, ops[i], by simp [hi], fun e he hbi => by
            have hlt := hlex i ops[i] (by simp [hi]) e he hbi
            have := ih e.on hlt (by omega)
            have hs' : e.on < l.size := by omega
            simpa [hs'] using this⟩
          rw [hr] at this; cases this
    intro fuel
    induction fuel with
    | zero =>
      intro l a w hl hc hcl hI
      have hr : Region.ready .any ops l = [] := by
        cases hx : Region.ready .any ops l with
        | nil => rfl
        | cons i r =>
          have := (mem_ready.1 (by rw [hx]; simp : i ∈ Region.ready .any ops l)).1
          rw [count_zero (by omega) i] at this; cases this
      exact ⟨hr, hd _ a w hI (hall l hl hr)⟩
    | succ fuel ih =>
      intro l a w hl hc hcl hI
      refine ⟨fun hr => hd _ a w hI (hall l hl hr), fun i hi => ?_⟩
      obtain ⟨h1, o, ho, h2⟩ := mem_ready.1 hi
      have hil : i < l.size := by
        by_cases h : i < l.size
        · exact h
        · simp [h] at h1
      refine wpOpIn_step ho (fun K hK => hs _ a w i o K ho hI (by simpa [hil] using h1) (fun e he hb => ?_) hcl (fun a' w' h' => hK a' w' (ih _ a' w' (by simpa using hl) (by have := count_set h1; omega) ?_ ?_)))
      · have hlt := hlex i o ho e he hb
        have := h2 e he hb
        have hs' : e.on < l.size := by omega
        simpa [hs'] using this
      · intro j oj hoj hj e he hb
        have hset : ∀ k, (l.setIfInBounds i true).getD k false = if k = i then true else l.getD k false := by
          intro k
          by_cases hk : k = i
          · subst hk; simp [hil]
          · simp [hk, Ne.symm hk]
        rw [hset] at hj ⊢
        by_cases hji : j = i
        · subst hji
          obtain rfl : oj = o := by rw [ho] at hoj; exact (Option.some.inj hoj).symm
          have hlt := hlex j oj ho e he hb
          have := h2 e he hb
          have hs' : e.on < l.size := by omega
          rw [if_neg (by omega)]
          simpa [hs'] using this
        · rw [if_neg hji] at hj
          have := hcl j oj hoj hj e he hb
          split
          · rfl
          · exact this
      · have e : (fun j => (l.setIfInBounds i true).getD j false) = (fun j => if j = i then true else l.getD j false) := by
          funext j
          by_cases hj : j = i
          · subst hj; simp [hil]
          · simp [hj, Ne.symm hj]
        rw [e]; exact h'
  refine aux _ _ _ _ (by simp) ?_ ?_ ?_
  · refine Nat.le_trans List.countP_le_length ?_
    simp
  · intro j o _ hj
    exfalso
    simp [Array.getElem?_replicate] at hj
    split at hj <;> cases hj
  · have e : (fun i => (Array.replicate ops.size false).getD i false) = (fun _ => false) := by funext i; simp [Array.getElem?_replicate]; split <;> rfl
    rw [e]; exact h0

/-- An append as one operation, by its run. -/
theorem wpIn_append {o : Oper} {a : Act} {w w' : World} {K : Act → World → Prop} {s x : Operand} {t : TypeId} {v' : Value} (hop : o.op = Op.call { callee := Callee.builtin Builtin.append, args := #[s, x], argTypes := #[t, t] })
    (hrun : (Builtin.append_ #[t, t] o.type #[a.eval s, a.eval x]).run P w = .ok v' w') (hK : K (a.put o.dst v') w') : o.wpIn F n P a w K Q := by
  unfold Oper.wpIn
  refine ⟨?_, ?_⟩
  · simp [Oper.about, hop, resolve, Target.leads, Sem.run_pure]
  · rw [Oper.semAt_plain F _ _ (by rw [hop]; intro c hc'; cases hc')]
    simp [execOp, hop, resolve, invoke, builtin, hrun, Result.andThen]
    exact hK
end Go.Proofs.YtcfmaeonginefaaGreatDoor.Region
