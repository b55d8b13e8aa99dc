/- expr.letter, expr.Tag, tags.tag, and the references' own: what they answer. -/
import Derived.Test.YtcfmaeonginefaaDoorRefMade
import Derived.Test.YtcfmaeonginefaaDoorSets
import Derived.Lib.ConvBytes
namespace Go.Proofs.YtcfmaeonginefaaDoor.Tag
open Go Go.RowKit Go.Shelf Go.Proofs.YtcfmaeonginefaaDoor.Made Go.Proofs.YtcfmaeonginefaaDoor.Base Go.Proofs.YtcfmaeonginefaaDoor.RefFine Go.Proofs.YtcfmaeonginefaaDoor.RefMade
set_option linter.unusedSimpArgs false
set_option linter.unusedVariables false

def letE (b : UInt8) : Bool := (decide ((97 : Int) ≤ bits BinOp.or IntKind.u8 b.toNat 32) && decide (bits BinOp.or IntKind.u8 b.toNat 32 ≤ 122)) || (decide ((48 : Int) ≤ b.toNat) && decide ((b.toNat : Int) ≤ 57)) || ((b.toNat : Int) == 95) || ((b.toNat : Int) == 46)
def letB (b : UInt8) : Bool := (decide ((97 : Int) ≤ b.toNat) && decide ((b.toNat : Int) ≤ 122)) || (decide ((65 : Int) ≤ b.toNat) && decide ((b.toNat : Int) ≤ 90)) || (decide ((48 : Int) ≤ b.toNat) && decide ((b.toNat : Int) ≤ 57)) || ((b.toNat : Int) == 95) || ((b.toNat : Int) == 46)
theorem let_eq (b : UInt8) : letE b = letB b := by
  have := all_bytes (fun b => letE b == letB b) (by decide +kernel) b
  simpa using this

set_option maxRecDepth 100000 in
set_option maxHeartbeats 4000000 in
theorem letter (b : UInt8) (w : World) : Calls Tryd.prog 83 #[.int .u8 b.toNat] w fun e w' => e = .returned (.bool (letB b)) ∧ w = w' := by
  rw [← let_eq]
  have hc : (97 ≤ bits BinOp.or IntKind.u8 b.toNat 32 ∧ bits BinOp.or IntKind.u8 b.toNat 32 ≤ 122) ∨ (¬ 97 ≤ bits BinOp.or IntKind.u8 b.toNat 32) ∨ (97 ≤ bits BinOp.or IntKind.u8 b.toNat 32 ∧ ¬ bits BinOp.or IntKind.u8 b.toNat 32 ≤ 122) := by omega
  have hd : ((48 : Int) ≤ b.toNat ∧ (b.toNat : Int) ≤ 57) ∨ (¬ (48 : Int) ≤ b.toNat) ∨ ((48 : Int) ≤ b.toNat ∧ ¬ (b.toNat : Int) ≤ 57) := by omega
  have h5 : ((b.toNat : Int) == 95) = true ∨ ((b.toNat : Int) == 95) = false := by cases ((b.toNat : Int) == 95) <;> simp
  rcases hc with ⟨a1, a2⟩ | a1 | ⟨a1, a2⟩ <;> rcases hd with ⟨c1, c2⟩ | c1 | ⟨c1, c2⟩ <;> rcases h5 with e5 | e5
  all_goals
    obtain ⟨r, hr⟩ : ∃ r, letE b = r := ⟨_, rfl⟩
    rw [hr]
    have HR := Lib.hid hr
    clear hr
    go_enter Tryd.func83, Tryd.ntmps83
    go_wp2
    go_ret
    exact ⟨ret_bool (by rw [← HR.out]; first | (simp [letE, *]; done) | (simp [letE, *]; omega)), rfl⟩

set_option maxRecDepth 100000 in
set_option maxHeartbeats 8000000 in
theorem letter12 (b : UInt8) (w : World) : Calls Tryd.prog 95 #[.int .u8 b.toNat] w fun e w' => e = .returned (.bool (letB b)) ∧ w = w' := by
  have h5 : ((b.toNat : Int) == 95) = true ∨ ((b.toNat : Int) == 95) = false := by cases ((b.toNat : Int) == 95) <;> simp
  rcases zones b.toNat with ⟨a1, a2, a3, a4, a5, a6⟩ | ⟨a1, a2, a3, a4, a5, a6⟩ | ⟨a1, a2, a3, a4, a5, a6⟩ | ⟨a1, a2, a3, a4, a5, a6⟩ | ⟨a1, a2, a3, a4, a5, a6⟩ | ⟨a1, a2, a3, a4, a5, a6⟩ | ⟨a1, a2, a3, a4, a5, a6⟩ <;> rcases h5 with e5 | e5
  all_goals
    obtain ⟨r, hr⟩ : ∃ r, letB b = r := ⟨_, rfl⟩
    rw [hr]
    have HR := Lib.hid hr
    clear hr
    go_enter Tryd.func95, Tryd.ntmps95
    go_wp2
    go_ret
    exact ⟨ret_bool (by rw [← HR.out]; first | (simp [letB, *]; done) | (simp [letB, *]; omega)), rfl⟩
def tagB (s : ByteArray) : Bool := s.data.toList.all letB && !s.toList.isEmpty && decide ((s.size : Int) ≤ 60)
theorem tagB_no {s : ByteArray} (k : Nat) (hk : k < s.size) (h : letB s[k] = false) : tagB s = false := by
  unfold tagB
  have : s.data.toList.all letB = false := List.all_eq_false.2 ⟨s[k], (show s.data[k] ∈ s.data.toList by simp), by rw [h]; exact Bool.false_ne_true⟩
  rw [this]; rfl

set_option maxHeartbeats 2000000 in
theorem Tag (s : ByteArray) (hs : s.size ≤ 1048576) (w : World) : Calls Tryd.prog 51 #[.string s] w fun e w' => e = .returned (.bool (tagB s)) ∧ w = w' := by
  go_enter Tryd.func51, Tryd.ntmps51
  go_wp2
  go_loop [6] (fun i => ∃ k : Nat, k ≤ s.size ∧ i = .int .i64 k ∧ Hid (((s.data.toList.take k).all letB) = true)) (fun i => s.size - (intOf i).toNat)
  case atStart => exact ⟨0, Nat.zero_le _, rfl, Lib.hid rfl⟩
  case round =>
    obtain ⟨k, hk, rfl, HA⟩ := hrel
    by_cases hlt : k < s.size
    · have HT := Lib.hid (all_split letB s k hlt HA.out)
      cases hp : letB s[k] with
      | true =>
        have HP := Lib.hid hp
        clear hp
        go_wp2_with (go_at_call 83; refine (letter s[k] _).mono ?_; rw [HP.out]; rintro e w' ⟨rfl, rfl⟩)
        go_round
        case rel => exact ⟨k + 1, by omega, by go_num, Lib.hid (by rw [HT.out, HP.out])⟩
        case measure => simp [intOf] <;> omega
      | false =>
        have HS := Lib.hid (tagB_no k hlt hp)
        have HP := Lib.hid hp
        clear hp
        go_wp2_with (go_at_call 83; refine (letter s[k] _).mono ?_; rw [HP.out]; rintro e w' ⟨rfl, rfl⟩)
        go_ret
        exact ⟨ret_bool HS.out.symm, rfl⟩
    · have HS := Lib.hid (show tagB s = (!s.toList.isEmpty && decide ((s.size : Int) ≤ 60)) by
        have h := HA.out
        rw [List.take_of_length_le (by rw [lenS]; omega)] at h
        unfold tagB
        rw [h, Bool.true_and])
      cases he : s.toList.isEmpty with
      | true =>
        rw [he] at HS
        go_wp2_with (first | (exfalso; rename_i hu _; simp [undef] at hu; done))
        go_ret
        exact ⟨ret_bool HS.out.symm, rfl⟩
      | false =>
        rw [he] at HS
        go_wp2_with (first | (exfalso; rename_i hu _; simp [undef] at hu; done))
        go_ret
        exact ⟨ret_bool (by rw [HS.out]; rfl), rfl⟩

set_option maxHeartbeats 2000000 in
theorem Tag12 (s : ByteArray) (hs : s.size ≤ 1048576) (w : World) : Calls Tryd.prog 54 #[.string s] w fun e w' => e = .returned (.bool (tagB s)) ∧ w = w' := by
  go_enter Tryd.func54, Tryd.ntmps54
  go_wp2
  go_loop [3] (fun i => ∃ k : Nat, k ≤ s.size ∧ i = .int .i64 k ∧ Hid (((s.data.toList.take k).all letB) = true)) (fun i => s.size - (intOf i).toNat)
  case atStart => exact ⟨0, Nat.zero_le _, rfl, Lib.hid rfl⟩
  case round =>
    obtain ⟨k, hk, rfl, HA⟩ := hrel
    by_cases hlt : k < s.size
    · have HT := Lib.hid (all_split letB s k hlt HA.out)
      cases hp : letB s[k] with
      | true =>
        have HP := Lib.hid hp
        clear hp
        go_wp2_with (go_at_call 95; refine (letter12 s[k] _).mono ?_; rw [HP.out]; rintro e w' ⟨rfl, rfl⟩)
        go_round
        case rel => exact ⟨k + 1, by omega, by go_num, Lib.hid (by rw [HT.out, HP.out])⟩
        case measure => simp [intOf] <;> omega
      | false =>
        have HS := Lib.hid (tagB_no k hlt hp)
        have HP := Lib.hid hp
        clear hp
        go_wp2_with (go_at_call 95; refine (letter12 s[k] _).mono ?_; rw [HP.out]; rintro e w' ⟨rfl, rfl⟩)
        go_ret
        exact ⟨ret_bool HS.out.symm, rfl⟩
    · have HS := Lib.hid (show tagB s = (!s.toList.isEmpty && decide ((s.size : Int) ≤ 60)) by
        have h := HA.out
        rw [List.take_of_length_le (by rw [lenS]; omega)] at h
        unfold tagB
        rw [h, Bool.true_and])
      cases he : s.toList.isEmpty with
      | true =>
        rw [he] at HS
        go_wp2_with (first | (exfalso; rename_i hu _; simp [undef] at hu; done))
        go_ret
        exact ⟨ret_bool HS.out.symm, rfl⟩
      | false =>
        rw [he] at HS
        go_wp2_with (first | (exfalso; rename_i hu _; simp [undef] at hu; done))
        go_ret
        exact ⟨ret_bool (by rw [HS.out]; rfl), rfl⟩
/-- A tag of the tables. -/
def ignB (s : ByteArray) : Bool := s.toList == [105, 103, 110, 111, 114, 101]
def unixB (s : ByteArray) : Bool := s.toList == [117, 110, 105, 120]
def tagT (s : ByteArray) : Bool := tagB s && !ignB s && !unixB s

set_option maxHeartbeats 1000000 in
theorem tag (s : ByteArray) (hs : s.size ≤ 1048576) (w : World) : Calls Tryd.prog 32 #[.string s] w fun e w' => e = .returned (.bool (tagT s)) ∧ w = w' := by
  obtain ⟨b, hb⟩ : ∃ b, tagB s = b := ⟨_, rfl⟩
  obtain ⟨i, hi⟩ : ∃ i, ignB s = i := ⟨_, rfl⟩
  obtain ⟨u, hu⟩ : ∃ u, unixB s = u := ⟨_, rfl⟩
  have HR := Lib.hid (show tagT s = (b && !i && !u) by unfold tagT; rw [hb, hi, hu])
  have HB := Lib.hid hb
  unfold ignB at hi
  unfold unixB at hu
  clear hb
  cases b <;> cases i <;> cases u
  all_goals
    go_enter Tryd.func32, Tryd.ntmps32
    go_wp2_with (first
      | (exfalso; rename_i hu _; simp [undef] at hu; done)
      | (go_at_call 51; refine (Tag s hs _).mono ?_; rw [HB.out]; rintro e w' ⟨rfl, rfl⟩))
    go_ret
    exact ⟨ret_bool HR.out.symm, rfl⟩

set_option maxHeartbeats 1000000 in
theorem tag14 (s : ByteArray) (hs : s.size ≤ 1048576) (w : World) : Calls Tryd.prog 35 #[.string s] w fun e w' => e = .returned (.bool (tagT s)) ∧ w = w' := by
  obtain ⟨b, hb⟩ : ∃ b, tagB s = b := ⟨_, rfl⟩
  obtain ⟨i, hi⟩ : ∃ i, ignB s = i := ⟨_, rfl⟩
  obtain ⟨u, hu⟩ : ∃ u, unixB s = u := ⟨_, rfl⟩
  have HR := Lib.hid (show tagT s = (b && !i && !u) by unfold tagT; rw [hb, hi, hu])
  have HB := Lib.hid hb
  unfold ignB at hi
  unfold unixB at hu
  clear hb
  cases b <;> cases i <;> cases u
  all_goals
    go_enter Tryd.func35, Tryd.ntmps35
    go_wp2_with (first
      | (exfalso; rename_i hu _; simp [undef] at hu; done)
      | (go_at_call 54; refine (Tag12 s hs _).mono ?_; rw [HB.out]; rintro e w' ⟨rfl, rfl⟩))
    go_ret
    exact ⟨ret_bool HR.out.symm, rfl⟩
end Go.Proofs.YtcfmaeonginefaaDoor.Tag
