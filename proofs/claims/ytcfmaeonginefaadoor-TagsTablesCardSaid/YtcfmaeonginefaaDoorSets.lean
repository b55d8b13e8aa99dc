/- A map[string]bool that holds true at some texts: looked up, put in, ranged over. -/
import Derived.Test.YtcfmaeonginefaaDoorBase
import Derived.Maps.Own
import Derived.Maps.OwnOps
import Derived.Maps.OwnSet
import Derived.Maps.Views
import Derived.Maps.RangeWalk
import Derived.Maps.StringElems
import Derived.StringKeys
import Derived.Lib.SlicesS
namespace Go.Proofs.YtcfmaeonginefaaDoor.Sets
open Go Go.RowKit Go.WideMaps Go.Maps Go.WideShapes Go.Proofs.YtcfmaeonginefaaDoor.Base
set_option linter.unusedSimpArgs false
set_option linter.unusedVariables false

/-- The key that a text is. -/
def kl (s : ByteArray) : Lit := .string s.data.toList
theorem kl_inj {s t : ByteArray} (h : kl s = kl t) : s = t := by
  unfold kl at h
  obtain ⟨⟨l⟩⟩ := s
  obtain ⟨⟨m⟩⟩ := t
  cases h; rfl
theorem law : Keyed Tryd.prog 9 := string_keyed Tryd.underlying9
theorem zeroB (w : World) : (zeroValue 4).run Tryd.prog w = .ok (.bool false) w := by kernel_rfl
theorem plainB (b : Bool) : plainElem (H := Unit) Tryd.prog 4 (.bool b) = some (.lit (.bool b), []) := plainElem_bool Tryd.underlying4 b
set_option maxRecDepth 100000 in
theorem plainB_inv {v : Value} {z : DataW Unit × List MemPlace} (h : plainElem Tryd.prog 4 v = some z) : ∃ b, v = .bool b ∧ z = (.lit (.bool b), []) := by
  cases v
  case bool b => exact ⟨b, rfl, by rw [plainB] at h; exact (Option.some.inj h).symm⟩
  all_goals simp [plainElem, Tryd.underlying4] at h
/-- Is a text among some? -/
def inL (s : ByteArray) (xs : List ByteArray) : Bool := Lib.containsS xs s
theorem inL_iff {s : ByteArray} {xs : List ByteArray} : inL s xs = true ↔ s ∈ xs := Lib.containsS_iff xs s
theorem inL_nil (s : ByteArray) : inL s [] = false := by
  cases h : inL s [] with
  | false => rfl
  | true => exact absurd (inL_iff.1 h) (by simp)
theorem inL_snoc (s t : ByteArray) (xs : List ByteArray) : inL s (xs ++ [t]) = true ↔ inL s xs = true ∨ s = t := by rw [inL_iff, inL_iff]; simp
theorem inL_same (s : ByteArray) (xs : List ByteArray) : inL s (xs ++ [s]) = true := (inL_snoc s s xs).2 (.inr rfl)
theorem inL_other {s t : ByteArray} (h : s ≠ t) (xs : List ByteArray) : inL s (xs ++ [t]) = inL s xs := by
  rw [Bool.eq_iff_iff, inL_snoc]
  exact ⟨fun k => k.resolve_right h, .inl⟩
/-- Block b is a map of at most n entries, that holds true just at the texts xs. -/
def SetIs (w : World) (b n : Nat) (xs : List ByteArray) : Prop :=
  ∃ D : DataW Unit, w.ownsMap Tryd.prog 9 (plainElem Tryd.prog 4) b n D ∧ IsMap D ∧ (∀ s : ByteArray, D.atKey (kl s) (.lit (.bool false)) = .lit (.bool (inL s xs))) ∧ ∀ s : ByteArray, Maps.has D (kl s) = inL s xs
theorem keyS {s : ByteArray} (h : s.size ≤ maxLen) : keyOf Tryd.prog 9 (.string s) = some (kl s) := keyOf_string_mk Tryd.underlying9 h
theorem isKey (s : ByteArray) : WideAt.IsKeyLit (kl s) := by unfold kl; trivial
theorem set_made (w : World) : SetIs (w.alloc (.map #[] 0)) w.heap.size 0 [] :=
  ⟨.map [], World.ownsMap_made _ _ _ _, ⟨[], rfl⟩, fun s => by rw [inL_nil]; simp [DataW.atKey], fun s => by rw [inL_nil]; simp [Maps.has]⟩
theorem set_kept {w w' : World} {b n : Nat} {xs : List ByteArray} {row : Option Nat} (h : SetIs w b n xs) (hg : w.grownBy w' row) (hne : some b ≠ row) : SetIs w' b n xs := by
  obtain ⟨D, h1, h2⟩ := h
  exact ⟨D, h1.kept hg hne, h2⟩
theorem set_lt {w : World} {b n : Nat} {xs : List ByteArray} (h : SetIs w b n xs) : b < w.heap.size := by
  obtain ⟨D, h1, _⟩ := h; exact h1.lt
theorem set_below {w w' : World} {b n : Nat} {xs : List ByteArray} (h : SetIs w b n xs) (hb : Below w.heap.size w w') : SetIs w' b n xs := by
  obtain ⟨D, ⟨es, clock, h1, h2⟩, h3⟩ := h
  exact ⟨D, ⟨es, clock, (hb.block b (Array.getElem?_eq_some_iff.1 h1).1).trans h1, h2⟩, h3⟩

section
variable {ops : Array Oper} {rest : List Oper} {o : Oper} {a : Act} {Q : Exit → Act → World → Prop}
/-- 'm[k]'. -/
theorem look (w : World) (hg : o.guard = none) (m x : Operand) (t : TypeId) (hop : o.op = Op.lookup t m x false) (ht : Tryd.prog.underlying t = some (.map 9 4)) (b n : Nat) (xs : List ByteArray)
    (hm : a.eval m = .map (some b)) (hs : SetIs w b n xs) (s : ByteArray) (hx : a.eval x = .string s) (hz : s.size ≤ maxLen)
    (hK : wpList Tryd.prog ops Q rest (a.put o.dst (.bool (inL s xs))) w) : wpList Tryd.prog ops Q (o :: rest) a w := by
  refine wpList_plain hg fun K' hK' => ?_
  obtain ⟨D, h1, h2, h3, h4⟩ := hs
  obtain ⟨v, ps, hrun, hv⟩ := h1.lookup law ht (zeroB w) (plainB false) (keyS hz)
  obtain ⟨c, rfl, hc⟩ := plainB_inv hv
  rw [h3 s] at hc
  simp only [Prod.mk.injEq, DataW.lit.injEq, Lit.bool.injEq] at hc
  obtain ⟨rfl, _⟩ := hc
  unfold Oper.wp
  simp [execOp, hop, hm, hx, hrun, Result.andThen]
  exact hK' _ _ hK
/-- 'm[k] = true'. -/
theorem put (w : World) (hg : o.guard = none) (m x v : Operand) (t : TypeId) (hop : o.op = Op.mapUpdate t m x v) (ht : Tryd.prog.underlying t = some (.map 9 4)) (b n : Nat) (xs : List ByteArray)
    (hm : a.eval m = .map (some b)) (hs : SetIs w b n xs) (hn : n < maxLen) (s : ByteArray) (hx : a.eval x = .string s) (hz : s.size ≤ maxLen) (hv : a.eval v = .bool true)
    (hK : ∀ w', SetIs w' b (n + 1) (xs ++ [s]) → w.grownBy w' (some b) → wpList Tryd.prog ops Q rest (a.put o.dst undef) w') : wpList Tryd.prog ops Q (o :: rest) a w := by
  refine wpList_plain hg fun K' hK' => ?_
  obtain ⟨D, h1, h2, h3, h4⟩ := hs
  obtain ⟨w', hrun, r1, r2⟩ := h1.update law ht hn (keyS hz) (plainB true)
  unfold Oper.wp
  simp [execOp, hop, hm, hx, hv, hrun, Result.andThen]
  refine hK' _ _ (hK w' ⟨_, r1, h2.put _ _, fun t => ?_, fun t => ?_⟩ r2)
  · by_cases e : t = s
    · subst e
      rw [atKey_put_same h2 (isKey t), inL_same]
    · rw [atKey_put_other (fun k => e (kl_inj k)), h3 t, inL_other e]
  · by_cases e : t = s
    · subst e
      rw [has_put_same h2 (isKey t), inL_same]
    · rw [has_put_other (fun k => e (kl_inj k)), h4 t, inL_other e]
end

theorem look_run {w : World} {b n : Nat} {xs : List ByteArray} (hs : SetIs w b n xs) (t : TypeId) (ht : Tryd.prog.underlying t = some (.map 9 4)) (s : ByteArray) (hz : s.size ≤ maxLen) :
    (Instr.lookup t (.map (some b)) (.string s) false).run Tryd.prog w = .ok (.bool (inL s xs)) w := by
  obtain ⟨D, h1, h2, h3, h4⟩ := hs
  obtain ⟨v, ps, hrun, hv⟩ := h1.lookup law ht (zeroB w) (plainB false) (keyS hz)
  obtain ⟨c, rfl, hc⟩ := plainB_inv hv
  rw [h3 s] at hc
  simp only [Prod.mk.injEq, DataW.lit.injEq, Lit.bool.injEq] at hc
  rw [hrun, ← hc.1]
/-- A slice of texts reads, wherever in its block it begins. -/
def Rq (w : World) (v : Value) (xs : List ByteArray) : Prop := ∃ (A : Option Addr) (c : Nat), v = .slice A xs.length c ∧ (A = none → c = 0) ∧ xs.length ≤ c ∧ ∀ (i : Nat) (h : i < xs.length), ∃ g o : Nat, A = some ⟨g, o, none⟩ ∧ w.cell? ⟨g, o + i, none⟩ = some (.string xs[i])
theorem rq_row {w : World} {b e : Nat} {v : Value} {xs : List ByteArray} (h : w.ownsRow b e 1 v xs.length (xs.map Value.string)) : Rq w v xs := by
  obtain ⟨hl, h'⟩ := id h
  rcases h' with ⟨rfl, h0⟩ | ⟨g, cap, cur, rfl, _, _, hcap, _⟩
  · exact ⟨none, 0, by rw [h0], (fun _ => rfl), by omega, fun i hi => absurd hi (by omega)⟩
  · refine ⟨some ⟨g, 0, none⟩, cap, rfl, (fun h => by cases h), hcap, fun i hi => ⟨g, 0, rfl, ?_⟩⟩
    rw [Nat.zero_add, h.cellAt i (by omega)]
    rw [List.getElem?_map, List.getElem?_eq_getElem hi]
    rfl
theorem rq_below {w w' : World} {v : Value} {xs : List ByteArray} (h : Rq w v xs) (hb : Below w.heap.size w w') : Rq w' v xs := by
  obtain ⟨A, c, rfl, hA, hc, h⟩ := h
  refine ⟨A, c, rfl, hA, hc, fun i hi => ?_⟩
  obtain ⟨g, o, hg, hc⟩ := h i hi
  refine ⟨g, o, hg, ?_⟩
  have hlt : g < w.heap.size := by
    rcases Nat.lt_or_ge g w.heap.size with h | h
    · exact h
    · exfalso
      simp [World.cell?, Array.getElem?_eq_none h] at hc
  exact (hb.cell (p := ⟨g, o + i, none⟩) hlt).trans hc
/-- Does an element stand twice? -/
def dupF : List ByteArray → List ByteArray → Bool
  | _, [] => false
  | seen, x :: r => inL x seen || dupF (seen ++ [x]) r
def dupB (l : List ByteArray) : Bool := dupF [] l
theorem dupF_snoc (x : ByteArray) : ∀ (l seen : List ByteArray), dupF seen (l ++ [x]) = (dupF seen l || inL x (seen ++ l))
  | [], seen => by simp [dupF]
  | y :: r, seen => by
    show (inL y seen || dupF (seen ++ [y]) (r ++ [x])) = (inL y seen || dupF (seen ++ [y]) r || inL x (seen ++ y :: r))
    rw [dupF_snoc x r (seen ++ [y]), Bool.or_assoc]
    congr 3
    simp
theorem dup_snoc (l : List ByteArray) (x : ByteArray) : dupB (l ++ [x]) = (dupB l || inL x l) := by
  unfold dupB; rw [dupF_snoc]; rfl
end Go.Proofs.YtcfmaeonginefaaDoor.Sets
