/- append of a slice of texts, nil or not, to an own row of texts. -/
import Derived.Test.YtcfmaeonginefaaDoorSets
import Derived.Laws.AppendOwnNone
namespace Go.Proofs.YtcfmaeonginefaaDoor.Append
open Go Go.RowKit Go.Maps Go.Proofs.YtcfmaeonginefaaDoor.Base Go.Proofs.YtcfmaeonginefaaDoor.Sets
set_option linter.unusedSimpArgs false
set_option linter.unusedVariables false

/-- An own row of texts. -/
def OwnT (w : World) (B : Nat) (v : Value) (xs : List ByteArray) : Prop := w.ownsRow B 9 1 v xs.length (xs.map Value.string)
theorem own_rq {w : World} {B : Nat} {v : Value} {xs : List ByteArray} (h : OwnT w B v xs) : Rq w v xs := rq_row h
theorem own_shape {w : World} {B : Nat} {v : Value} {xs : List ByteArray} (h : OwnT w B v xs) : ∃ A c, v = .slice A xs.length c := by
  obtain ⟨A, c, h, _⟩ := own_rq h; exact ⟨A, c, h⟩
theorem own_below {w w' : World} {B : Nat} {v : Value} {xs : List ByteArray} (h : OwnT w B v xs) (hb : Below w.heap.size w w') : OwnT w' B v xs := rowBelow h hb
theorem own_grown {n : Nat} {w wr w1 : World} {v : Value} {xs : List ByteArray} (hB : Below n w wr) (h : OwnT wr n v xs) (hg : wr.grownBy w1 v.ownBlock) (hs : n ≤ wr.heap.size) : Below n w w1 := hB.grown hg hs fun j ej => (h.lt j ej).1
theorem own_empty (w : World) (B : Nat) (hb : B ≤ w.heap.size) : OwnT (w.alloc (.cells #[] 9)) B (.slice (some ⟨w.heap.size, 0, none⟩) 0 0) [] := World.ownsRow_lit w #[] 0 hb (by decide) rfl
theorem own_nil (w : World) (B : Nat) : OwnT w B (.slice none 0 0) [] := ⟨rfl, .inl ⟨rfl, rfl⟩⟩
theorem rq_one (w : World) (x : ByteArray) (e : TypeId) : Rq (w.alloc (.cells #[.string x] e)) (.slice (some ⟨w.heap.size, 0, none⟩) 1 1) [x] := by
  refine ⟨some ⟨w.heap.size, 0, none⟩, 1, rfl, (fun h => by cases h), by simp, fun i hi => ⟨w.heap.size, 0, rfl, ?_⟩⟩
  obtain rfl : i = 0 := by simp at hi; omega
  simp only [World.cell?]
  rw [newAt w (.cells #[.string x] e) w.heap.size rfl]
  simp

section
variable {ops : Array Oper} {rest : List Oper} {o : Oper} {a : Act} {Q : Exit → Act → World → Prop}
theorem append_rq (w : World) (hg : o.guard = none) (s x : Operand) (hop : o.op = .call { callee := .builtin .append, args := #[s, x], argTypes := #[22, 22] })
    (B : Nat) (v vx : Value) (xs ys : List ByteArray) (hs : a.eval s = v) (hown : OwnT w B v xs) (hx : a.eval x = vx) (hq : Rq w vx ys) (hB : B ≤ w.heap.size) (hn : xs.length + ys.length ≤ 1000000)
    (hK : ∀ A c w', OwnT w' B (.slice A (xs ++ ys).length c) (xs ++ ys) → w.grownBy w' v.ownBlock → wpList Tryd.prog ops Q rest (a.put o.dst (.slice A (xs ++ ys).length c)) w') : wpList Tryd.prog ops Q (o :: rest) a w := by
  obtain ⟨i0, hi, hz0, hz1, hz2⟩ := info_parts infoS
  obtain ⟨A, c, rfl, hA, hc, hr⟩ := hq
  cases A with
  | none =>
    have h0 := hA rfl
    have hl : ys.length = 0 := by
      rcases Nat.eq_zero_or_pos ys.length with h | h
      · exact h
      · obtain ⟨g, o, hg, _⟩ := hr 0 h; cases hg
    have hy : ys = [] := List.length_eq_zero_iff.1 hl
    subst hy h0
    obtain ⟨A', c', rfl⟩ := own_shape hown
    refine wpList_append_own_none hg s x 22 hop B 9 i0 1 Tryd.underlying22 hi _ _ _ hs hown hx ?_
    have := hK A' c' w (by rw [List.append_nil]; exact hown) (World.grownBy.refl _ _)
    rwa [List.append_nil] at this
  | some ad =>
    refine wpList_append_own w hg s x 22 hop B 9 i0 (.string ⟨#[]⟩) 1 16 Tryd.underlying22 hi hz0 hz1 hz2 rfl (by decide) v xs.length _ hs hown ad ys.length c (ys.map Value.string) hx (by simp) (fun j u hu => ?_) (fun u hu => ?_) (by unfold maxLen; omega) (by omega) hB ?_
    · rw [List.getElem?_map] at hu
      rcases Nat.lt_or_ge j ys.length with hj | hj
      · rw [List.getElem?_eq_getElem hj] at hu
        obtain ⟨g, o, hg, hcell⟩ := hr j hj
        cases hg
        cases hu
        rw [WideShapes.add_plain]
        exact hcell
      · rw [List.getElem?_eq_none hj] at hu; cases hu
    · obtain ⟨y, _, rfl⟩ := List.mem_map.1 hu
      rfl
    · intro v' w' hown' hgr _
      rw [← List.map_append, ← List.length_append] at hown'
      obtain ⟨A', c', rfl⟩ := own_shape (show OwnT w' B v' (xs ++ ys) from hown')
      exact hK A' c' w' hown' hgr
end
end Go.Proofs.YtcfmaeonginefaaDoor.Append
