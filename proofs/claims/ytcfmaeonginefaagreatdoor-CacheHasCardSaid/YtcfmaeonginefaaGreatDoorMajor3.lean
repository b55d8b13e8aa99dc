/- The last element of a path, and what it tells, by the elements; what is stripped of a local path. Plain Lean, no program. -/
import Derived.Test.YtcfmaeonginefaaGreatDoorMajor
namespace Go.Proofs.YtcfmaeonginefaaGreatDoor.Major3
open Go Go.Proofs.YtcfmaeonginefaaGreatDoor.Cut Go.Proofs.YtcfmaeonginefaaGreatDoor.Elems Go.Proofs.YtcfmaeonginefaaGreatDoor.Idents Go.Proofs.YtcfmaeonginefaaGreatDoor.Sign Go.Proofs.YtcfmaeonginefaaGreatDoor.Num3 Go.Proofs.YtcfmaeonginefaaGreatDoor.Parse Go.Proofs.YtcfmaeonginefaaGreatDoor.Parse3 Go.Proofs.YtcfmaeonginefaaGreatDoor.Major
set_option linter.unusedSimpArgs false
set_option linter.unusedVariables false

theorem lenS (s : ByteArray) : s.data.toList.length = s.size := by rw [Array.length_toList]; rfl
theorem elemsB_eq (s : ByteArray) : elemsB s = if s.toList.isEmpty = true then [] else splB 47 s := by
  unfold elemsB rest
  cases s.toList.isEmpty <;> rfl
theorem major_no {path : ByteArray} (hl : li path = -1) (hno : ∀ b ∈ path.data.toList, b ≠ 47) : (elemsB path).length < 2 ∧ majorB path = 0 := by
  constructor
  · rw [elemsB_eq]
    split
    · exact Nat.zero_lt_two
    · unfold splB
      rw [spl_none 47 _ (by rw [ib_none _ hno]; decide)]
      exact Nat.one_lt_two
  · unfold majorB; rw [hl]; rfl
theorem major_at {path : ByteArray} {i : Nat} {a t : List UInt8} (hi : i < path.size) (hl : li path = i) (hat : path.data.toList = a ++ 47 :: t) (hai : a.length = i) (hno : ∀ b ∈ t, b ≠ 47) :
    elemsB path = (spl 47 a).map mk ++ [mk t] ∧ majorB path = majorT (mk t) := by
  have hne : path.toList.isEmpty = false := by
    rw [Lib.toList_data, hat]
    cases a <;> rfl
  constructor
  · rw [elemsB_eq, hne, if_neg Bool.false_ne_true]
    unfold splB
    rw [hat, spl_append, spl_none 47 t (by rw [ib_none _ hno]; decide), List.map_append]
    rfl
  · unfold majorB
    rw [hl, if_neg (by omega)]
    show majorT (path.extract (i + 1) path.size) = _
    rw [extract_mk, hat]
    congr 2
    have h1 := congrArg List.length hat
    rw [lenS] at h1
    rw [← hai]
    rw [List.drop_append, show List.drop (a.length + 1) a = [] from List.drop_of_length_le (by omega)]
    rw [show a.length + 1 - a.length = 1 by omega]
    simp only [List.nil_append, List.drop_succ_cons, List.drop_zero]
    rw [List.take_of_length_le]
    simp at h1
    omega
theorem major_short {path : ByteArray} (h : (elemsB path).length < 2) : majorB path = 0 := by
  rcases li_spec path with ⟨hl, hno⟩ | ⟨i, hi, hl, a, t, hat, hai, hno⟩
  · exact (major_no hl hno).2
  · rw [(major_at hi hl hat hai hno).1] at h
    have := spl_ne 47 a
    cases hs : spl 47 a with
    | nil => exact absurd hs this
    | cons x r => rw [hs] at h; simp at h; omega
theorem major_last {path : ByteArray} {n : Nat} (h : (elemsB path).length = n + 1) (h2 : 1 ≤ n) : majorB path = majorT ((elemsB path)[n]'(by omega)) := by
  rcases li_spec path with ⟨hl, hno⟩ | ⟨i, hi, hl, a, t, hat, hai, hno⟩
  · have := (major_no hl hno).1
    omega
  · obtain ⟨h3, h4⟩ := major_at hi hl hat hai hno
    rw [h4]
    congr 1
    have h5 : ((spl 47 a).map mk).length = n := by rw [h3] at h; simpa using h
    simp only [h3]
    rw [List.getElem_append_right (by omega)]
    simp
theorem majorT_short {s : ByteArray} (h : s.size < 2) : majorT s = 0 := by
  unfold majorT
  rw [if_neg]
  intro k
  simp only [Bool.and_eq_true] at k
  obtain ⟨⟨k1, k2⟩, k3⟩ := k
  rw [trimV_tail s k1] at k2
  have hz : (s.extract 1 s.size).toList = [] := by
    rw [Lib.toList_data]
    have := lenS (s.extract 1 s.size)
    rw [ByteArray.size_extract] at this
    exact List.eq_nil_of_length_eq_zero (by omega)
  unfold numOk everyB at k2
  rw [hz] at k2
  simp at k2
theorem majorT_head {s : ByteArray} (h : 0 < s.size) (k : ¬ (s[0].toNat : Int) = 118) : majorT s = 0 := by
  unfold majorT
  rw [isV_head s h, decide_eq_false k]
  rfl
theorem majorT_small {s : ByteArray} (h : numR (s.extract 1 s.size) < 2) : majorT s = 0 := by
  unfold majorT
  split
  · rename_i k
    simp only [Bool.and_eq_true, decide_eq_true_eq] at k
    obtain ⟨⟨k1, k2⟩, k3⟩ := k
    rw [trimV_tail s k1] at k2 k3
    unfold numR at h
    rw [if_pos k2] at h
    omega
  · rfl
theorem majorT_yes {s : ByteArray} (h0 : 0 < s.size) (k0 : (s[0].toNat : Int) = 118) (h : ¬ numR (s.extract 1 s.size) < 2) : majorT s = numR (s.extract 1 s.size) := by
  have k1 : isV s = true := by rw [isV_head s h0, decide_eq_true k0]
  unfold numR at *
  by_cases k2 : numOk (s.extract 1 s.size) = true
  · rw [if_pos k2] at *
    unfold majorT
    rw [k1, trimV_tail s k1, k2, decide_eq_true (by omega)]
    rfl
  · rw [if_neg k2] at h
    omega
theorem majorB_nn (path : ByteArray) : 0 ≤ majorB path := by
  unfold majorB majorT
  split
  · omega
  · split
    · exact numV_nonneg _
    · omega

/-- A local path without its leading ./ and ../ -/
def strip : List UInt8 → List UInt8
  | 46 :: 47 :: t => strip t
  | 46 :: 46 :: 47 :: t => strip t
  | l => l
end Go.Proofs.YtcfmaeonginefaaGreatDoor.Major3
