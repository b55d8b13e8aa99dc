/- cache.At, graftbedref07.At: what they answer. -/
import Derived.Test.YtcfmaeonginefaaGreatDoorMade
import Derived.Deep.QuietTactic
import Derived.BigQuiet
namespace Go.Proofs.YtcfmaeonginefaaGreatDoor.At7
open Go Go.RowKit Go.Shelf Go.Proofs.YtcfmaeonginefaaGreatDoor.Seq Go.Proofs.YtcfmaeonginefaaGreatDoor.Made
set_option linter.unusedSimpArgs false
set_option linter.unusedVariables false

def atB (p v : ByteArray) : ByteArray := if v.toList.isEmpty = true then p else p ++ ⟨#[64]⟩ ++ v

set_option maxRecDepth 100000 in
set_option maxHeartbeats 1000000 in
theorem at_ (p v : ByteArray) (hp : p.size ≤ 1048576) (hv : v.size ≤ 1048576) (w : World) : Calls Tryz.prog 10 #[.agg #[.string p, .string v]] w fun e w' => e = .returned (.string (atB p v)) ∧ Below w.heap.size w w' := by
  have hb : Below w.heap.size w (w.alloc (.cells #[.string p, .string v] 23)) := (Below.refl _ w).alloc (Nat.le_refl _) _
  cases h : v.toList.isEmpty with
  | true =>
    have e : atB p v = p := by unfold atB; rw [if_pos h]
    rw [e]
    clear e
    go_enter Tryz.func10, Tryz.ntmps10
    go_wp2
    go_ret
    exact ⟨rfl, hb⟩
  | false =>
    have e : atB p v = p ++ ⟨#[64]⟩ ++ v := by unfold atB; rw [if_neg (by rw [h]; exact Bool.false_ne_true)]
    rw [e]
    clear e
    have q1 : ¬ 9223372036854775807 < p.size + 1 := by omega
    have q2 : ¬ 9223372036854775807 < p.size + 1 + v.size := by omega
    go_enter Tryz.func10, Tryz.ntmps10
    go_wp2
    go_ret
    exact ⟨rfl, hb⟩
set_option maxRecDepth 100000 in
set_option maxHeartbeats 1000000 in
theorem at7 (p v : ByteArray) (hp : p.size ≤ 1048576) (hv : v.size ≤ 1048576) (w : World) : Calls Tryz.prog 11 #[.agg #[.string p, .string v]] w fun e w' => e = .returned (.string (atB p v)) ∧ Below w.heap.size w w' := by
  have hb : Below w.heap.size w (w.alloc (.cells #[.string p, .string v] 23)) := (Below.refl _ w).alloc (Nat.le_refl _) _
  cases h : v.toList.isEmpty with
  | true =>
    have e : atB p v = p := by unfold atB; rw [if_pos h]
    rw [e]
    clear e
    go_enter Tryz.func11, Tryz.ntmps11
    go_wp2
    go_ret
    exact ⟨rfl, hb⟩
  | false =>
    have e : atB p v = p ++ ⟨#[64]⟩ ++ v := by unfold atB; rw [if_neg (by rw [h]; exact Bool.false_ne_true)]
    rw [e]
    clear e
    have q1 : ¬ 9223372036854775807 < p.size + 1 := by omega
    have q2 : ¬ 9223372036854775807 < p.size + 1 + v.size := by omega
    go_enter Tryz.func11, Tryz.ntmps11
    go_wp2
    go_ret
    exact ⟨rfl, hb⟩
end Go.Proofs.YtcfmaeonginefaaGreatDoor.At7
