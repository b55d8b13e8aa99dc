/- strings.Cut and internal/stringslite.Cut at a separator of one byte; splitting a text at a byte. -/
import Derived.Test.YtcfmaeonginefaaGreatDoorShelf
import Derived.Deep.QuietTactic
import Derived.BigQuiet
import Derived.WalkKit
import Derived.OwnWalk
import Derived.WalkSpells
import Derived.Lib.IndexLaws
import Derived.Lib.Hide
import Derived.Lib.Strings
import Derived.Lib.IndexBytes
namespace Go.Proofs.YtcfmaeonginefaaGreatDoor.Cut
open Go Go.RowKit

/-- Where a byte first stands; below 0: nowhere. -/
def ix (s : ByteArray) (c : UInt8) : Int := Lib.indexByte s.data.toList c

theorem ix_lt (s : ByteArray) (c : UInt8) : ix s c < s.size ∧ -1 ≤ ix s c := by
  unfold ix
  have h1 := Lib.indexByte_ge s.data.toList c
  refine ⟨?_, h1⟩
  by_cases h : Lib.indexByte s.data.toList c = -1
  · omega
  · obtain ⟨o, ho⟩ : ∃ o : Nat, Lib.indexByte s.data.toList c = o := ⟨(Lib.indexByte s.data.toList c).toNat, by omega⟩
    have := (Lib.indexByte_some ho).1
    have := (List.getElem?_eq_some_iff.1 this).1
    have e : s.data.toList.length = s.size := by rw [Array.length_toList]; rfl
    omega

/-- A text cut at a byte. -/
def cutB (s : ByteArray) (c : UInt8) : ByteArray × ByteArray × Bool :=
  if 0 ≤ ix s c then (s.extract 0 (ix s c).toNat, s.extract ((ix s c).toNat + 1) s.size, true) else (s, ⟨#[]⟩, false)

theorem idx1 (s : ByteArray) (c : UInt8) (w : World) : Calls Tryz.prog 125 #[.string s, .string ⟨#[c]⟩] w fun e w' => e = .returned (.int .i64 (ix s c)) ∧ w' = w := Tryz.stringslite_Index_one s c w

set_option maxHeartbeats 1000000 in
theorem lite_no (s : ByteArray) (c : UInt8) (w : World) (h : ix s c < 0) :
    Calls Tryz.prog 93 #[.string s, .string ⟨#[c]⟩] w fun e w' => e = .returned (.tuple #[.string s, .string ⟨#[]⟩, .bool false]) ∧ w' = w := by
  go_enter Tryz.func93, Tryz.ntmps93
  go_wp2_with (go_at_call 125; refine (idx1 s c _).mono ?_; rintro e w' ⟨rfl, rfl⟩)
  go_ret3
  exact ⟨rfl, rfl⟩

set_option maxHeartbeats 1000000 in
theorem lite_yes (s : ByteArray) (c : UInt8) (w : World) (hs : s.size ≤ 9223372036854775807) (h : 0 ≤ ix s c) :
    Calls Tryz.prog 93 #[.string s, .string ⟨#[c]⟩] w fun e w' => e = .returned (.tuple #[.string (s.extract 0 (ix s c).toNat), .string (s.extract ((ix s c).toNat + 1) s.size), .bool true]) ∧ ∃ n, w' = w.drewN n := by
  have hl := (ix_lt s c).1
  go_enter Tryz.func93, Tryz.ntmps93
  go_wp2_with (go_at_call 125; refine (idx1 s c _).mono ?_; rintro e w' ⟨rfl, rfl⟩)
  go_quiet (fail)
  go_wp2
  go_ret3
  have hi : (ix s c + 1).toNat = (ix s c).toNat + 1 := by omega
  first | exact ⟨rfl, _, rfl⟩ | (rw [hi]; exact ⟨rfl, _, rfl⟩)

theorem lite (s : ByteArray) (c : UInt8) (w : World) (hs : s.size ≤ 9223372036854775807) :
    Calls Tryz.prog 93 #[.string s, .string ⟨#[c]⟩] w fun e w' => e = .returned (.tuple #[.string (cutB s c).1, .string (cutB s c).2.1, .bool (cutB s c).2.2]) ∧ ∃ n, w' = w.drewN n := by
  by_cases h : 0 ≤ ix s c
  · have e : cutB s c = (s.extract 0 (ix s c).toNat, s.extract ((ix s c).toNat + 1) s.size, true) := if_pos h
    rw [e]; exact lite_yes s c w hs h
  · have e : cutB s c = (s, ⟨#[]⟩, false) := if_neg h
    rw [e]; exact (lite_no s c w (by omega)).mono fun e w' ⟨a, b⟩ => ⟨a, 0, b⟩

set_option maxHeartbeats 1000000 in
theorem cut (s : ByteArray) (c : UInt8) (w : World) (hs : s.size ≤ 9223372036854775807) :
    Calls Tryz.prog 60 #[.string s, .string ⟨#[c]⟩] w fun e w' => e = .returned (.tuple #[.string (cutB s c).1, .string (cutB s c).2.1, .bool (cutB s c).2.2]) ∧ ∃ n, w' = w.drewN n := by
  go_enter Tryz.func60, Tryz.ntmps60
  go_wp2_with (go_at_call 93; refine (lite s c _ hs).mono ?_; rintro e w' ⟨rfl, n, rfl⟩)
  go_ret3
  exact ⟨rfl, n, rfl⟩

/-! ### Splitting -/
def spl (c : UInt8) : List UInt8 → List (List UInt8)
  | [] => [[]]
  | b :: t => if b = c then [] :: spl c t else match spl c t with
    | [] => [[b]]
    | h :: r => (b :: h) :: r
def mk (l : List UInt8) : ByteArray := ⟨l.toArray⟩
/-- A text's parts between the bytes c: at least one. -/
def splB (c : UInt8) (s : ByteArray) : List ByteArray := (spl c s.data.toList).map mk

theorem mk_data (s : ByteArray) : mk s.data.toList = s := by cases s; rfl
theorem spl_ne (c : UInt8) : ∀ l, spl c l ≠ []
  | [] => by simp [spl]
  | b :: t => by
    unfold spl
    split
    · simp
    · split <;> simp
theorem ib_cons (b : UInt8) (t : List UInt8) (c : UInt8) (e : b ≠ c) : Lib.indexByte (b :: t) c = if Lib.indexByte t c = -1 then -1 else Lib.indexByte t c + 1 := by
  simp [Lib.indexByte, e]
theorem ib_here (t : List UInt8) (c : UInt8) : Lib.indexByte (c :: t) c = 0 := by simp [Lib.indexByte]
theorem spl_cons (b : UInt8) (t : List UInt8) (c : UInt8) (e : b ≠ c) : spl c (b :: t) = match spl c t with | [] => [[b]] | h :: r => (b :: h) :: r := by
  conv => lhs; unfold spl
  rw [if_neg e]
theorem spl_none (c : UInt8) : ∀ l, Lib.indexByte l c < 0 → spl c l = [l]
  | [], _ => rfl
  | b :: t, h => by
    by_cases e : b = c
    · subst e; rw [ib_here] at h; omega
    · rw [ib_cons b t c e] at h
      have ht : Lib.indexByte t c < 0 := by
        have := Lib.indexByte_ge t c
        split at h <;> omega
      rw [spl_cons b t c e, spl_none c t ht]
theorem spl_some (c : UInt8) : ∀ (l : List UInt8) (i : Nat), Lib.indexByte l c = i → spl c l = l.take i :: spl c (l.drop (i + 1))
  | [], i, h => by simp [Lib.indexByte] at h
  | b :: t, i, h => by
    by_cases e : b = c
    · subst e
      rw [ib_here] at h
      obtain rfl : i = 0 := by omega
      simp [spl]
    · rw [ib_cons b t c e] at h
      have hg := Lib.indexByte_ge t c
      obtain ⟨j, hj⟩ : ∃ j : Nat, Lib.indexByte t c = j := ⟨(Lib.indexByte t c).toNat, by split at h <;> omega⟩
      obtain rfl : i = j + 1 := by rw [hj] at h; split at h <;> omega
      rw [spl_cons b t c e, spl_some c t j hj]
      simp

theorem splB_no (c : UInt8) (s : ByteArray) (h : ix s c < 0) : splB c s = [s] := by
  unfold splB; rw [spl_none c _ h]; simp [mk_data]
theorem extract_mk (s : ByteArray) (a b : Nat) : s.extract a b = mk ((s.data.toList.drop a).take (b - a)) := by
  rw [← Lib.extract_data, mk_data]
theorem splB_yes (c : UInt8) (s : ByteArray) (h : 0 ≤ ix s c) : splB c s = s.extract 0 (ix s c).toNat :: splB c (s.extract ((ix s c).toNat + 1) s.size) := by
  have hi : Lib.indexByte s.data.toList c = ((ix s c).toNat : Int) := by unfold ix at *; omega
  unfold splB
  rw [spl_some c _ _ hi, Lib.extract_to_end]
  simp [extract_mk]
theorem splB_cut (c : UInt8) (s : ByteArray) : splB c s = (cutB s c).1 :: (if (cutB s c).2.2 = true then splB c (cutB s c).2.1 else []) := by
  unfold cutB
  by_cases h : 0 ≤ ix s c
  · rw [if_pos h]; simpa using splB_yes c s h
  · rw [if_neg h]; simpa using splB_no c s (by omega)
theorem cutB_size (s : ByteArray) (c : UInt8) : (cutB s c).2.1.size ≤ s.size ∧ ((cutB s c).2.2 = true → (cutB s c).2.1.size < s.size) := by
  unfold cutB
  have := (ix_lt s c).1
  by_cases h : 0 ≤ ix s c
  · rw [if_pos h]; simp; omega
  · rw [if_neg h]; exact ⟨Nat.zero_le _, fun e => by cases e⟩
theorem cutB_size1 (s : ByteArray) (c : UInt8) : (cutB s c).1.size ≤ s.size := by
  unfold cutB
  have := (ix_lt s c).1
  by_cases h : 0 ≤ ix s c
  · rw [if_pos h]; simp; omega
  · rw [if_neg h]; simp
theorem spl_length (c : UInt8) : ∀ l, (spl c l).length ≤ l.length + 1
  | [] => by simp [spl]
  | b :: t => by
    have := spl_length c t
    by_cases e : b = c
    · subst e; simp [spl]; omega
    · rw [spl_cons b t c e]; split <;> simp_all <;> omega
theorem spl_size (c : UInt8) : ∀ l x, x ∈ spl c l → x.length ≤ l.length
  | [], x, h => by simp [spl] at h; subst h; simp
  | b :: t, x, h => by
    have ih := spl_size c t
    by_cases e : b = c
    · subst e
      simp only [spl, if_true, List.mem_cons] at h
      rcases h with rfl | h
      · simp
      · have := ih x h; simp; omega
    · rw [spl_cons b t c e] at h
      cases hs : spl c t with
      | nil => exact absurd hs (spl_ne c t)
      | cons h0 r =>
        rw [hs] at h ih
        simp only [List.mem_cons] at h
        rcases h with rfl | h
        · have := ih h0 (by simp); simp; omega
        · have := ih x (by simp [h]); simp; omega
end Go.Proofs.YtcfmaeonginefaaGreatDoor.Cut
