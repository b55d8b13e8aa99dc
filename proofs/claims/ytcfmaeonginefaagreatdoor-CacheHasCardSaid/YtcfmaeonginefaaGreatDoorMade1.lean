/- graftbedref01.made: what it answers. -/
import Derived.Test.YtcfmaeonginefaaGreatDoorFine1
namespace Go.Proofs.YtcfmaeonginefaaGreatDoor.Made1
open Go Go.RowKit Go.Shelf Go.Proofs.YtcfmaeonginefaaGreatDoor.Seq Go.Proofs.YtcfmaeonginefaaGreatDoor.Cut Go.Proofs.YtcfmaeonginefaaGreatDoor.Elems Go.Proofs.YtcfmaeonginefaaGreatDoor.Paths Go.Proofs.YtcfmaeonginefaaGreatDoor.Made Go.Proofs.YtcfmaeonginefaaGreatDoor.Idents Go.Proofs.YtcfmaeonginefaaGreatDoor.Num3 Go.Proofs.YtcfmaeonginefaaGreatDoor.Split3 Go.Proofs.YtcfmaeonginefaaGreatDoor.Idents3 Go.Proofs.YtcfmaeonginefaaGreatDoor.Hand01 Go.Proofs.YtcfmaeonginefaaGreatDoor.PathCmp Go.Proofs.YtcfmaeonginefaaGreatDoor.Fine1
set_option linter.unusedSimpArgs false
set_option linter.unusedVariables false

def clsU (u : Bool) (c : UInt8) : Bool := (decide ((97 : Int) ≤ c.toNat) && decide ((c.toNat : Int) ≤ 122)) || (decide ((48 : Int) ≤ c.toNat) && decide ((c.toNat : Int) ≤ 57)) || (u && (decide ((65 : Int) ≤ c.toNat) && decide ((c.toNat : Int) ≤ 90)))
def okU (u : Bool) (more : ByteArray) (c : UInt8) : Bool := clsU u c || more.data.toList.any (· == c)
theorem zones (n : Int) : (¬ 48 ≤ n ∧ n ≤ 57 ∧ ¬ 65 ≤ n ∧ n ≤ 90 ∧ ¬ 97 ≤ n ∧ n ≤ 122) ∨ (48 ≤ n ∧ n ≤ 57 ∧ ¬ 65 ≤ n ∧ n ≤ 90 ∧ ¬ 97 ≤ n ∧ n ≤ 122) ∨ (48 ≤ n ∧ ¬ n ≤ 57 ∧ ¬ 65 ≤ n ∧ n ≤ 90 ∧ ¬ 97 ≤ n ∧ n ≤ 122) ∨
    (48 ≤ n ∧ ¬ n ≤ 57 ∧ 65 ≤ n ∧ n ≤ 90 ∧ ¬ 97 ≤ n ∧ n ≤ 122) ∨ (48 ≤ n ∧ ¬ n ≤ 57 ∧ 65 ≤ n ∧ ¬ n ≤ 90 ∧ ¬ 97 ≤ n ∧ n ≤ 122) ∨ (48 ≤ n ∧ ¬ n ≤ 57 ∧ 65 ≤ n ∧ ¬ n ≤ 90 ∧ 97 ≤ n ∧ n ≤ 122) ∨ (48 ≤ n ∧ ¬ n ≤ 57 ∧ 65 ≤ n ∧ ¬ n ≤ 90 ∧ 97 ≤ n ∧ ¬ n ≤ 122) := by omega
theorem any_step (l : List UInt8) (c : UInt8) (j : Nat) (h : j < l.length) : (l.take (j + 1)).any (· == c) = ((l.take j).any (· == c) || l[j] == c) := by
  rw [List.take_succ_eq_append_getElem h, List.any_append]; simp
theorem lenS (s : ByteArray) : s.data.toList.length = s.size := by rw [Array.length_toList]; rfl

def allU (u : Bool) (more s : ByteArray) : Bool := s.data.toList.all (okU u more)
theorem beq_nat (x y : UInt8) : ((x.toNat : Int) == y.toNat) = (x == y) := by
  rw [Bool.eq_iff_iff, beq_iff_eq, beq_iff_eq]
  constructor
  · intro h; exact UInt8.toNat_inj.1 (by omega)
  · rintro rfl; rfl

set_option maxRecDepth 100000 in
set_option maxHeartbeats 8000000 in
theorem made01 (s more : ByteArray) (u : Bool) (hs : s.size ≤ 1048576) (hm : more.size ≤ 1000) (w : World) : Calls Tryz.prog 69 #[.string s, .bool u, .string more] w fun e w' => e = .returned (.bool (allU u more s)) ∧ w = w' := by
  obtain ⟨u', hu⟩ : ∃ u', u = u' := ⟨_, rfl⟩
  rw [show allU u more s = allU u' more s by rw [hu]]
  have HU := Lib.hid hu
  clear hu
  go_enter Tryz.func69, Tryz.ntmps69
  go_wp2
  go_loop [7] (fun i => ∃ k : Nat, i = .int .i64 k ∧ k ≤ s.size ∧ Hid (((s.data.toList.take k).all (okU u' more)) = true)) (fun i => s.size - (intOf i).toNat)
  case atStart => exact ⟨0, rfl, Nat.zero_le _, Lib.hid rfl⟩
  case round =>
    obtain ⟨k, rfl, hk, HT⟩ := hrel
    by_cases hlt : k < s.size
    · have hsp := Lib.hid (all_split (okU u' more) s k hlt HT.out)
      have HF := Lib.hid (show okU u' more s[k] = false → allU u' more s = false from fun h => by
        refine List.all_eq_false.2 ?_
        exact ⟨s[k], (show s.data[k] ∈ s.data.toList by simp), by rw [h]; exact Bool.false_ne_true⟩)
      cases u <;> rcases zones s[k].toNat with ⟨a1, a2, a3, a4, a5, a6⟩ | ⟨a1, a2, a3, a4, a5, a6⟩ | ⟨a1, a2, a3, a4, a5, a6⟩ | ⟨a1, a2, a3, a4, a5, a6⟩ | ⟨a1, a2, a3, a4, a5, a6⟩ | ⟨a1, a2, a3, a4, a5, a6⟩ | ⟨a1, a2, a3, a4, a5, a6⟩
      all_goals
        go_wp2
        go_loop [9, 10] (fun v9 i => ∃ (j : Nat) (v : Bool), i = .int .i64 j ∧ j ≤ more.size ∧ v9 = .bool v ∧ Hid (v = (clsU u' s[k] || (more.data.toList.take j).any (· == s[k])))) (fun _ i => more.size - (intOf i).toNat)
        case atStart => exact ⟨0, _, rfl, Nat.zero_le _, rfl, Lib.hid (by rw [← HU.out]; simp [clsU, a1, a2, a3, a4, a5, a6])⟩
        case round =>
          clear a1 a2 a3 a4 a5 a6
          obtain ⟨j, v, rfl, hj, rfl, HV⟩ := hrel
          by_cases hlj : j < more.size
          · have HA := Lib.hid (any_step more.data.toList s[k] j (by rw [lenS]; exact hlj))
            cases v with
            | true =>
              go_wp2
              go_round
              case rel => exact ⟨j + 1, true, by go_num, by omega, rfl, Lib.hid (by rw [HA.out, ← Bool.or_assoc, ← HV.out]; rfl)⟩
              case measure => simp [intOf] <;> omega
            | false =>
              go_wp2
              go_round
              case rel => exact ⟨j + 1, _, by go_num, by omega, rfl, Lib.hid (by rw [HA.out, ← Bool.or_assoc, ← HV.out, beq_nat]; rfl)⟩
              case measure => simp [intOf] <;> omega
          · have HO := Lib.hid (show okU u' more s[k] = v by rw [HV.out, List.take_of_length_le (by rw [lenS]; omega)]; rfl)
            cases v with
            | true =>
              have HP := Lib.hid (show ((s.data.toList.take (k + 1)).all (okU u' more)) = true by rw [hsp.out]; exact HO.out)
              go_wp2
              go_round
              case rel => exact ⟨k + 1, by go_num, by omega, HP⟩
              case measure => simp [intOf] <;> omega
            | false =>
              have HS := Lib.hid (HF.out HO.out)
              go_wp2
              go_ret
              exact ⟨ret_bool HS.out.symm, rfl⟩
    · have HS := Lib.hid (show allU u' more s = true by
        have := HT.out
        rw [List.take_of_length_le (by rw [lenS]; omega)] at this
        exact this)
      go_wp2
      go_ret
      exact ⟨ret_bool HS.out.symm, rfl⟩

theorem low_ok (b : UInt8) : okU false ⟨#[45, 46, 95, 126, 47]⟩ b = inB (low ++ ⟨#[]⟩) b := by
  have := all_bytes (fun b => okU false ⟨#[45, 46, 95, 126, 47]⟩ b == inB (low ++ ⟨#[]⟩) b) (by decide +kernel) b
  simpa using this
theorem made_low (s : ByteArray) : allU false ⟨#[45, 46, 95, 126, 47]⟩ s = madeB s ⟨#[]⟩ := by
  unfold madeB allU; congr 1; funext b; exact low_ok b
end Go.Proofs.YtcfmaeonginefaaGreatDoor.Made1
