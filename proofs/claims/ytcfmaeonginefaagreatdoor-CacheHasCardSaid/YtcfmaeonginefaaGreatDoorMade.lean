/- paths.made, and small words: what they answer. -/
import Derived.Test.YtcfmaeonginefaaGreatDoorPaths
import Derived.Lib.Strings
namespace Go.Proofs.YtcfmaeonginefaaGreatDoor.Made
open Go Go.RowKit Go.Shelf Go.Proofs.YtcfmaeonginefaaGreatDoor.Seq Go.Proofs.YtcfmaeonginefaaGreatDoor.Cut Go.Proofs.YtcfmaeonginefaaGreatDoor.Elems Go.Proofs.YtcfmaeonginefaaGreatDoor.Paths
attribute [local go_sem] Oper.semAt_some
set_option linter.unusedSimpArgs false
set_option linter.unusedVariables false

theorem Valid (s : ByteArray) (hs : s.size ≤ 1048576) (w : World) : Calls Tryz.prog 58 #[.string s] w fun e W' => e = .returned (.bool (validB s)) ∧ Below w.heap.size w W' := callsIn_wide.1 (valid_in s hs w)

/-- The letters, digits and signs of a module's path. -/
def low : ByteArray := ⟨#[97, 98, 99, 100, 101, 102, 103, 104, 105, 106, 107, 108, 109, 110, 111, 112, 113, 114, 115, 116, 117, 118, 119, 120, 121, 122, 48, 49, 50, 51, 52, 53, 54, 55, 56, 57, 45, 46, 95, 126, 47]⟩
def inB (set : ByteArray) (b : UInt8) : Bool := decide (0 ≤ ix set b)
def madeB (s more : ByteArray) : Bool := s.data.toList.all fun b => inB (low ++ more) b

theorem ret_bool {a b : Bool} (h : a = b) : Ending.returned (.bool a) = .returned (.bool b) := by rw [h]
theorem ret_num {k : IntKind} {a b : Int} (h : a = b) : Ending.returned (.int k a) = .returned (.int k b) := by rw [h]
theorem idxU (s : ByteArray) (b : UInt8) (w : World) : Calls Tryz.prog 61 #[.string s, .int .u8 b.toNat] w fun e w' => e = .returned (.int .i64 (ix s b)) ∧ w = w' :=
  (idxB s b.toNat w).mono fun e w' h => by
    have e1 : ((b.toNat : Int)).toNat.toUInt8 = b := by simp
    rw [e1] at h; exact h

set_option maxRecDepth 100000 in
set_option maxHeartbeats 1000000 in
theorem made (s more : ByteArray) (hs : s.size ≤ 1048576) (hm : more.size ≤ 1000) (w : World) : Calls Tryz.prog 59 #[.string s, .string more] w fun e w' => e = .returned (.bool (madeB s more)) ∧ w = w' := by
  go_enter Tryz.func59, Tryz.ntmps59
  go_wp2
  go_loop [8] (fun i => ∃ k : Nat, k ≤ s.size ∧ i = .int .i64 k ∧ ((s.data.toList.take k).all fun b => inB (low ++ more) b) = true) (fun i => s.size - (intOf i).toNat)
  case atStart => exact ⟨0, Nat.zero_le _, rfl, rfl⟩
  case round =>
    have hsz : s.data.toList.length = s.size := by rw [Array.length_toList]; rfl
    obtain ⟨k, hk, rfl, hall⟩ := hrel
    have HA := Lib.hid hall
    clear hall
    by_cases hlt : k < s.size
    · have hts : s.data.toList.take (k + 1) = s.data.toList.take k ++ [s[k]] := by
        rw [List.take_succ_eq_append_getElem (by omega)]; rfl
      have HT := Lib.hid hts
      clear hts
      by_cases hin : 0 ≤ ix (low ++ more) s[k]
      · go_wp2_with (go_at_call 61; refine (idxU (low ++ more) s[k] _).mono ?_; rintro e w' ⟨rfl, rfl⟩)
        go_round
        case rel => exact ⟨k + 1, by omega, by go_num, by rw [HT.out, List.all_append, HA.out]; simp [inB, hin]⟩
        case measure => simp [intOf]; omega
      · have hno : madeB s more = false := by
          unfold madeB
          rw [← Bool.not_eq_true, List.all_eq_true]
          intro h
          have := h s[k] (by
            have : s.data.toList[k]? = some s[k] := by rw [List.getElem?_eq_getElem (by omega)]; rfl
            exact List.mem_of_getElem? this)
          simp [inB, hin] at this
        have HN := Lib.hid hno
        clear hno
        go_wp2_with (go_at_call 61; refine (idxU (low ++ more) s[k] _).mono ?_; rintro e w' ⟨rfl, rfl⟩)
        go_ret
        exact ⟨ret_bool HN.out.symm, rfl⟩
    · obtain rfl : k = s.size := by omega
      go_wp2
      go_ret
      exact ⟨ret_bool (by unfold madeB; rw [← HA.out, List.take_of_length_le (by omega)]), rfl⟩

def errB (b : Bool) : Int := if b = true then 0 else 10

theorem prefixU (s : ByteArray) (w : World) : Calls Tryz.prog 63 #[.string s, .string ⟨#[46]⟩] w fun e w' => e = .returned (.bool (Lib.hasPrefix s.data.toList [46])) ∧ w = w' := (Tryz.strings_HasPrefix s ⟨#[46]⟩ w).mono fun _ _ h => ⟨h.1, h.2.symm⟩
theorem suffixU (s : ByteArray) (hs : s.size ≤ 1048576) (w : World) : Calls Tryz.prog 64 #[.string s, .string ⟨#[46]⟩] w fun e w' => e = .returned (.bool (Lib.hasSuffix s.data.toList [46])) ∧ w = w' := (Tryz.strings_HasSuffix s ⟨#[46]⟩ w (by omega)).mono fun _ _ h => ⟨h.1, h.2.symm⟩

theorem valid_size (s : ByteArray) (h : validB s = true) : s.size ≠ 0 := by
  intro e
  obtain ⟨⟨l⟩⟩ := s
  cases l with
  | nil =>
    have : (⟨#[]⟩ : ByteArray).toList.isEmpty = true := by decide +kernel
    unfold validB at h
    rw [this] at h
    simp at h
  | cons a t => exact absurd e (by simp [ByteArray.size])

theorem pw_drewN {B : Nat} {w W : World} (h : Below B w W) (n : Nat) : Below B w (W.drewN n) := ⟨h.os, h.tape, h.output, h.size, h.block⟩
theorem errB_no {b : Bool} (h : b = false) : errB b = 10 := by subst h; rfl
theorem errB_yes {b : Bool} (h : b = true) : errB b = 0 := by subst h; rfl
end Go.Proofs.YtcfmaeonginefaaGreatDoor.Made
