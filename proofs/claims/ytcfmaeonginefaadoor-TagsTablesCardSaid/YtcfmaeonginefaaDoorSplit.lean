/- strings.Split at one byte: what it answers. -/
import Derived.Test.YtcfmaeonginefaaDoorSets
import Derived.Test.YtcfmaeonginefaaDoorShelf2
import Derived.Lib.CountLaws
namespace Go.Proofs.YtcfmaeonginefaaDoor.Split
open Go Go.RowKit Go.Proofs.YtcfmaeonginefaaDoor.Cut Go.Proofs.YtcfmaeonginefaaDoor.Base Go.Proofs.YtcfmaeonginefaaDoor.Sets
set_option linter.unusedSimpArgs false
set_option linter.unusedVariables false

theorem ixB (s : ByteArray) (c : UInt8) : Lib.indexB s ⟨#[c]⟩ = ix s c := Lib.index_one s.data.toList c
theorem split_eq (c : UInt8) : ∀ (k : Nat) (s : ByteArray), s.size ≤ k → Lib.splitB ⟨#[c]⟩ 0 (Lib.countB s ⟨#[c]⟩) s = splB c s := by
  intro k
  induction k with
  | zero =>
    intro s hs
    have hx := ix_lt s c
    have h : ix s c = -1 := by omega
    rw [Lib.splitB_miss _ _ _ _ (by rw [ixB]; exact h), splB_no c s (by omega)]
  | succ k ih =>
    intro s hs
    have hx := ix_lt s c
    by_cases h : ix s c = -1
    · rw [Lib.splitB_miss _ _ _ _ (by rw [ixB]; exact h), splB_no c s (by omega)]
    · obtain ⟨i, hi⟩ : ∃ i : Nat, ix s c = i := ⟨(ix s c).toNat, by omega⟩
      have hs2 : (s.extract (i + 1) s.size).size ≤ k := by rw [ByteArray.size_extract]; omega
      rw [Lib.countB_hit s ⟨#[c]⟩ i (Nat.le_refl _) (by rw [ixB]; exact hi), Nat.add_comm 1, Lib.splitB_hit _ _ _ _ i (by rw [ixB]; exact hi), splB_yes c s (by omega), hi]
      congr 1
      exact ih _ hs2
theorem count_len (c : UInt8) (s : ByteArray) : Lib.countB s ⟨#[c]⟩ + 1 = (splB c s).length := by
  suffices h : ∀ (k : Nat) (s : ByteArray), s.size ≤ k → Lib.countB s ⟨#[c]⟩ + 1 = (splB c s).length from h s.size s (Nat.le_refl _)
  intro k
  induction k with
  | zero =>
    intro s hs
    have hx := ix_lt s c
    rw [Lib.countB_miss _ _ (by rw [ixB]; omega), splB_no c s (by omega)]; rfl
  | succ k ih =>
    intro s hs
    have hx := ix_lt s c
    by_cases h : ix s c = -1
    · rw [Lib.countB_miss _ _ (by rw [ixB]; exact h), splB_no c s (by omega)]; rfl
    · obtain ⟨i, hi⟩ : ∃ i : Nat, ix s c = i := ⟨(ix s c).toNat, by omega⟩
      have hs2 : (s.extract (i + 1) s.size).size ≤ k := by rw [ByteArray.size_extract]; omega
      have := ih _ hs2
      rw [Lib.countB_hit s ⟨#[c]⟩ i (Nat.le_refl _) (by rw [ixB]; exact hi), splB_yes c s (by omega), hi, List.length_cons]
      have e : (i : Int).toNat = i := by omega
      rw [e]
      have e2 : i + (⟨#[c]⟩ : ByteArray).size = i + 1 := rfl
      rw [e2]
      omega
/-- The parts, in a block of their own. -/
theorem splitT (s : ByteArray) (c : UInt8) (m : Int) (w : World) (hs : s.size ≤ 1048576) (hm : w.cell? ⟨0, 0, none⟩ = some (.int .i64 m)) :
    Calls Tryd.prog 25 #[.string s, .string ⟨#[c]⟩] w fun e w' => e = .returned (.slice (some ⟨w.heap.size, 0, none⟩) (splB c s).length (splB c s).length) ∧ Rq w' (.slice (some ⟨w.heap.size, 0, none⟩) (splB c s).length (splB c s).length) (splB c s) ∧ Below w.heap.size w w' := by
  refine (Tryd.strings_Split s ⟨#[c]⟩ m w (by omega) hm (Nat.le_refl _)).mono fun e w' k => ?_
  obtain ⟨rfl, rfl⟩ := k
  rw [count_len, split_eq c s.size s (Nat.le_refl _)]
  refine ⟨rfl, ⟨_, _, rfl, (fun h => by cases h), Nat.le_refl _, fun i hi => ⟨_, 0, rfl, ?_⟩⟩, (Below.refl _ w).alloc (Nat.le_refl _) _⟩
  simp only [World.cell?]
  rw [newAt w _ w.heap.size rfl]
  simp [hi]
end Go.Proofs.YtcfmaeonginefaaDoor.Split
