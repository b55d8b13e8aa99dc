/- slices.Sort, slices.Compact at an own row of texts. -/
import Derived.Test.YtcfmaeonginefaaDoorAppend
import Derived.Test.YtcfmaeonginefaaDoorShelf2
import Derived.Sort.OwnSorted
import Derived.Lib.RowBridge
namespace Go.Proofs.YtcfmaeonginefaaDoor.Sorted
open Go Go.RowKit Go.Sort Go.Proofs.YtcfmaeonginefaaDoor.Base Go.Proofs.YtcfmaeonginefaaDoor.Sets Go.Proofs.YtcfmaeonginefaaDoor.Append
set_option linter.unusedSimpArgs false
set_option linter.unusedVariables false

def lst (x : ByteArray) : List UInt8 := x.data.toList
def mkB (l : List UInt8) : ByteArray := ⟨l.toArray⟩
theorem mk_lst (x : ByteArray) : mkB (lst x) = x := by cases x; rfl
theorem lst_mk (l : List UInt8) : lst (mkB l) = l := rfl
theorem enc_lst (x : ByteArray) : encStr (lst x) = .string x := by cases x; rfl
theorem map_enc (xs : List ByteArray) : (xs.map lst).map encStr = xs.map Value.string := by
  rw [List.map_map]
  exact List.map_congr_left fun x _ => enc_lst x
theorem map_mk (ls : List (List UInt8)) : (ls.map mkB).map Value.string = ls.map encStr := by
  rw [List.map_map]; rfl
def sortL (ls : List (List UInt8)) : List (List UInt8) := ls.mergeSort fun x y => decide (x ≤ y)
def sortB (xs : List ByteArray) : List ByteArray := (sortL (xs.map lst)).map mkB
def compB (xs : List ByteArray) : List ByteArray := (Lib.compact (xs.map lst)).map mkB
theorem sortL_length (ls : List (List UInt8)) : (sortL ls).length = ls.length := by unfold sortL; simp
theorem sortB_length (xs : List ByteArray) : (sortB xs).length = xs.length := by unfold sortB; rw [List.length_map, sortL_length, List.length_map]
theorem comp_nil : compB [] = [] := rfl
theorem sort_nil : sortB [] = [] := by
  have h := sortB_length []
  exact List.length_eq_zero_iff.1 h

theorem sortT {v : Value} {xs : List ByteArray} {B : Nat} (w : World) (h : OwnT w B v xs) (hn : xs.length ≤ 1000000) :
    Calls Tryd.prog 33 #[v] w fun e w' => e = .returned (.tuple #[]) ∧ OwnT w' B v (sortB xs) ∧ w.grownBy w' v.ownBlock := by
  have h' := h
  unfold OwnT at h'
  rw [← map_enc] at h'
  rcases h'.2 with ⟨rfl, h0⟩ | ⟨g, cap, cur, rfl, hbase, hb, h1, h2, h3, h4⟩
  · have hx : xs = [] := List.length_eq_zero_iff.1 h0
    subst hx
    refine (Tryd.slices_Sort_string_none none 0 w).mono fun e w' k => ?_
    obtain ⟨rfl, rfl⟩ := k
    exact ⟨rfl, by rw [sort_nil]; exact h, World.grownBy.refl _ _⟩
  · have hl : (xs.map lst).length = xs.length := List.length_map ..
    have hH : Holds encStr w g 0 (xs.map lst).toArray := holds_of_block hb (by rw [hl]; simpa using h4)
    have := Tryd.slices_Sort_string g 0 cap (xs.map lst) w hH (Array.getElem?_eq_some_iff.1 hb).1 (by rw [hl]; omega)
    rw [hl] at this
    refine this.mono fun e w' k => ?_
    obtain ⟨rfl, n, os, rfl⟩ := k
    refine ⟨rfl, ?_, grownBy_sorted _⟩
    have ho := ownsRow_sorted (n := n) (os := os) (ss := xs.map lst) (ts := sortL (xs.map lst)) (sortL_length _) hbase hb (by rw [hl]; exact h1) h2 h3
    unfold OwnT
    rw [sortB_length]
    unfold sortB
    rw [map_mk]
    rw [hl] at ho
    exact ho
theorem compactT {v : Value} {xs : List ByteArray} {B : Nat} (w : World) (h : OwnT w B v xs) (hn : xs.length ≤ 1000000) :
    Calls Tryd.prog 34 #[v] w fun e w' => ∃ v', e = .returned v' ∧ Rq w' v' (compB xs) ∧ w.grownBy w' v.ownBlock := by
  have h' := h
  unfold OwnT at h'
  rw [← map_enc] at h'
  rcases h'.2 with ⟨rfl, h0⟩ | ⟨g, cap, cur, rfl, hbase, hb, h1, h2, h3, h4⟩
  · have hx : xs = [] := List.length_eq_zero_iff.1 h0
    subst hx
    refine (Tryd.slices_Compact_string_empty none 0 w).mono fun e w' k => ?_
    obtain ⟨rfl, rfl⟩ := k
    exact ⟨_, rfl, by rw [comp_nil]; exact own_rq h, World.grownBy.refl _ _⟩
  · have hl : (xs.map lst).length = xs.length := List.length_map ..
    have hH : Holds encStr w g 0 (xs.map lst).toArray := holds_of_block hb (by rw [hl]; simpa using h4)
    have := Tryd.slices_Compact_string g 0 cap (xs.map lst) w hH (by rw [hl]; omega) (by rw [hl]; exact h1)
    rw [hl] at this
    refine this.mono fun e w' k => ?_
    obtain ⟨rfl, q, rfl⟩ := k
    obtain ⟨cs, hcs⟩ : ∃ cs, Lib.compact (xs.map lst) = cs := ⟨_, rfl⟩
    have hcl : cs.length ≤ xs.length := by rw [← hcs, ← hl]; exact Lib.compact_length_le _
    rw [hcs]
    have ho := ownsRow_sorted (n := q) (os := #[]) (ss := xs.map lst) (ts := cs ++ List.replicate (xs.length - cs.length) []) (by rw [hl]; simp; omega) hbase hb (by rw [hl]; exact h1) h2 h3
    rw [grow_empty, hl] at ho
    have hgr := grownBy_sorted (w := w) (g := g) (n := q) (os := #[]) (cs ++ List.replicate (xs.length - cs.length) []).toArray
    rw [grow_empty] at hgr
    refine ⟨_, rfl, ?_, hgr⟩
    refine ⟨_, cap, by unfold compB; rw [hcs, List.length_map], (fun h => by cases h), by unfold compB; rw [hcs, List.length_map]; omega, fun i hi => ⟨g, 0, rfl, ?_⟩⟩
    have hi' : i < cs.length := by unfold compB at hi; rw [hcs, List.length_map] at hi; exact hi
    rw [Nat.zero_add, ho.cellAt i (by omega), List.getElem?_map, List.getElem?_append_left hi', List.getElem?_eq_getElem hi']
    unfold compB
    simp only [hcs, List.getElem_map]
    rfl
end Go.Proofs.YtcfmaeonginefaaDoor.Sorted
