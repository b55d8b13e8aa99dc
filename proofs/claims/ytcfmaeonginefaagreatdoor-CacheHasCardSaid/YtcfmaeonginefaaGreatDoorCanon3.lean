/- semver.Canonical and graftbedref03.Canonical: what they answer. -/
import Derived.Test.YtcfmaeonginefaaGreatDoorCompare3
namespace Go.Proofs.YtcfmaeonginefaaGreatDoor.Canon3
open Go Go.RowKit Go.Shelf Go.Proofs.YtcfmaeonginefaaGreatDoor.Seq Go.Proofs.YtcfmaeonginefaaGreatDoor.Cut Go.Proofs.YtcfmaeonginefaaGreatDoor.Elems Go.Proofs.YtcfmaeonginefaaGreatDoor.Paths Go.Proofs.YtcfmaeonginefaaGreatDoor.Made Go.Proofs.YtcfmaeonginefaaGreatDoor.Idents Go.Proofs.YtcfmaeonginefaaGreatDoor.Sign Go.Proofs.YtcfmaeonginefaaGreatDoor.Order Go.Proofs.YtcfmaeonginefaaGreatDoor.OrderPre Go.Proofs.YtcfmaeonginefaaGreatDoor.Num3 Go.Proofs.YtcfmaeonginefaaGreatDoor.Order3 Go.Proofs.YtcfmaeonginefaaGreatDoor.Parse Go.Proofs.YtcfmaeonginefaaGreatDoor.Parse3 Go.Proofs.YtcfmaeonginefaaGreatDoor.Idents3 Go.Proofs.YtcfmaeonginefaaGreatDoor.Split3 Go.Proofs.YtcfmaeonginefaaGreatDoor.Compare3
set_option linter.unusedSimpArgs false
set_option linter.unusedVariables false

theorem parseX (s : ByteArray) (hs : s.size ≤ 1048576) {M m p : Int} {pre me : ByteArray} {e : Int} (h : parseB s = (M, m, p, pre, me, e)) (w : World) :
    Calls Tryz.prog 54 #[.string s] w fun e' w' => e' = .returned (.tuple #[.agg #[.int .i64 M, .int .i64 m, .int .i64 p, .string pre, .string me], .int .i64 e]) ∧ Below w.heap.size w w' :=
  (Parse.Parse s hs w).mono fun e' w' ⟨he, hb⟩ => ⟨by rw [he, h]; rfl, hb⟩

def incB (me : ByteArray) : Bool := me.toList == [105, 110, 99, 111, 109, 112, 97, 116, 105, 98, 108, 101]
/-- A version without what stands behind its plus, unless that is 'incompatible'. -/
def canonB (s : ByteArray) : ByteArray := if (parseB s).2.2.2.2.2 = 0 then (if incB (parseB s).2.2.2.2.1 = true then s else (cutB s 43).1) else ⟨#[]⟩

set_option maxRecDepth 100000 in
set_option maxHeartbeats 2000000 in
theorem canonical (s : ByteArray) (hs : s.size ≤ 1048576) (w : World) : Calls Tryz.prog 33 #[.string s] w fun e w' => e = .returned (.string (canonB s)) ∧ Below w.heap.size w w' := by
  obtain ⟨⟨M, m, p, pre, me, e⟩, hA⟩ : ∃ r, parseB s = r := ⟨_, rfl⟩
  have hC : canonB s = if e = 0 then (if incB me = true then s else (cutB s 43).1) else ⟨#[]⟩ := by unfold canonB; rw [hA]
  rw [hC]
  have HA := Lib.hid hA
  clear hA hC
  by_cases he : e = 0
  · rw [if_pos he]
    have q1 : (e != 0) = false := by simpa using he
    clear he
    cases hi : incB me with
    | true =>
      rw [if_pos rfl]
      unfold incB at hi
      go_enter Tryz.func33, Tryz.ntmps33
      go_wp2_with (go_at_call 54; refine (parseX s hs HA.out _).mono ?_; rintro e1 w1 ⟨rfl, hb1⟩; have hbf : Below w.heap.size w (w1.alloc (.cells #[.int .i64 M, .int .i64 m, .int .i64 p, .string pre, .string me] 72)) := hb1.alloc hb1.size _)
      go_ret
      exact ⟨rfl, hbf⟩
    | false =>
      rw [if_neg Bool.false_ne_true]
      unfold incB at hi
      go_enter Tryz.func33, Tryz.ntmps33
      go_wp2_with (first
        | (go_at_call 54; refine (parseX s hs HA.out _).mono ?_; rintro e1 w1 ⟨rfl, hb1⟩; have hbf : Below w.heap.size w (w1.alloc (.cells #[.int .i64 M, .int .i64 m, .int .i64 p, .string pre, .string me] 72)) := hb1.alloc hb1.size _)
        | (go_at_call 60; refine (cut s 43 _ (by omega)).mono ?_; rintro e2 w2 ⟨rfl, q, rfl⟩))
      go_ret
      exact ⟨rfl, pw_drewN hbf q⟩
  · rw [if_neg he]
    have q1 : (e != 0) = true := by simpa using he
    clear he
    go_enter Tryz.func33, Tryz.ntmps33
    go_wp2_with (go_at_call 54; refine (parseX s hs HA.out _).mono ?_; rintro e1 w1 ⟨rfl, hb1⟩; have hbf : Below w.heap.size w (w1.alloc (.cells #[.int .i64 M, .int .i64 m, .int .i64 p, .string pre, .string me] 72)) := hb1.alloc hb1.size _)
    go_ret
    exact ⟨rfl, hbf⟩

set_option maxRecDepth 100000 in
set_option maxHeartbeats 2000000 in
theorem canonical3 (s : ByteArray) (hs : s.size ≤ 1048576) (w : World) : Calls Tryz.prog 37 #[.string s] w fun e w' => e = .returned (.string (canonB s)) ∧ Below w.heap.size w w' := by
  obtain ⟨⟨M, m, p, pre, me, e⟩, hA⟩ : ∃ r, parseB s = r := ⟨_, rfl⟩
  have hC : canonB s = if e = 0 then (if incB me = true then s else (cutB s 43).1) else ⟨#[]⟩ := by unfold canonB; rw [hA]
  rw [hC]
  have HA := Lib.hid hA
  clear hA hC
  by_cases he : e = 0
  · rw [if_pos he]
    have q1 : (e != 0) = false := by simpa using he
    clear he
    cases hi : incB me with
    | true =>
      rw [if_pos rfl]
      unfold incB at hi
      go_enter Tryz.func37, Tryz.ntmps37
      go_wp2_with (go_at_call 71; refine (parse3x s hs HA.out _).mono ?_; rintro e1 w1 ⟨rfl, hb1⟩; have hbf : Below w.heap.size w (w1.alloc (.cells #[.int .i64 M, .int .i64 m, .int .i64 p, .string pre, .string me] 87)) := hb1.alloc hb1.size _)
      go_ret
      exact ⟨rfl, hbf⟩
    | false =>
      rw [if_neg Bool.false_ne_true]
      unfold incB at hi
      obtain ⟨k, hk, hks, hc⟩ := find_cut s 43
      have hc' : (cutB s 43).1 = s.extract 0 k := by rw [hc]
      rw [hc']
      have HK := Lib.hid hk
      clear hk hc hc'
      go_enter Tryz.func37, Tryz.ntmps37
      go_wp2_with (first
        | (go_at_call 71; refine (parse3x s hs HA.out _).mono ?_; rintro e1 w1 ⟨rfl, hb1⟩; have hbf : Below w.heap.size w (w1.alloc (.cells #[.int .i64 M, .int .i64 m, .int .i64 p, .string pre, .string me] 87)) := hb1.alloc hb1.size _)
        | (go_at_call 72; refine (find43 s hs _).mono ?_; rw [HK.out]; rintro e2 w2 ⟨rfl, rfl⟩))
      go_ret
      exact ⟨rfl, hbf⟩
  · rw [if_neg he]
    have q1 : (e != 0) = true := by simpa using he
    clear he
    go_enter Tryz.func37, Tryz.ntmps37
    go_wp2_with (go_at_call 71; refine (parse3x s hs HA.out _).mono ?_; rintro e1 w1 ⟨rfl, hb1⟩; have hbf : Below w.heap.size w (w1.alloc (.cells #[.int .i64 M, .int .i64 m, .int .i64 p, .string pre, .string me] 87)) := hb1.alloc hb1.size _)
    go_ret
    exact ⟨rfl, hbf⟩
end Go.Proofs.YtcfmaeonginefaaGreatDoor.Canon3
