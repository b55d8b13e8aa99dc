/- graftbedlaw07.same at two slices that read alike: true. -/
import Derived.Test.YtcfmaeonginefaaGreatDoorVersC
import Derived.Deep.QuietTactic
import Derived.BigQuiet
namespace Go.Proofs.YtcfmaeonginefaaGreatDoor.Same7
open Go Go.RowKit Go.Shelf Go.Proofs.YtcfmaeonginefaaGreatDoor.Seq Go.Proofs.YtcfmaeonginefaaGreatDoor.Made Go.Proofs.YtcfmaeonginefaaGreatDoor.Row7 Go.Proofs.YtcfmaeonginefaaGreatDoor.VersC
set_option linter.unusedSimpArgs false
set_option linter.unusedVariables false

set_option maxRecDepth 100000 in
set_option maxHeartbeats 2000000 in
theorem same {v1 v2 : Value} {l : List ByteArray} (w : World) (h1 : RT w v1 l) (h2 : RT w v2 l) (hn : l.length ≤ 1048577) : Calls Tryz.prog 17 #[v1, v2] w fun e w' => e = .returned (.bool true) ∧ Below w.heap.size w w' := by
  obtain ⟨A, c, rfl, -, -, -, hr1⟩ := h1
  obtain ⟨B, d, rfl, -, -, -, hr2⟩ := h2
  have HA := Lib.hid hr1
  have HB := Lib.hid hr2
  obtain ⟨n, hnn⟩ : ∃ n, l.length = n := ⟨_, rfl⟩
  rw [hnn] at hn ⊢
  have HN := Lib.hid hnn
  clear hr1 hr2 hnn
  have hne : ((n : Int) != n) = false := by simp
  go_enter Tryz.func17, Tryz.ntmps17
  go_wp2
  go_loopw [5] (fun i wr => ∃ k : Nat, i = .int .i64 k ∧ k ≤ n ∧ Below w.heap.size w wr) (fun i wr => n - (intOf i).toNat)
  case atStart => exact ⟨0, rfl, Nat.zero_le _, Below.refl _ _⟩
  case round =>
    obtain ⟨k, rfl, hk, hb⟩ := hrel
    by_cases hlt : k < n
    · have hki : (k : Int) < n := by omega
      have hl' : k < l.length := by rw [HN.out]; exact hlt
      obtain ⟨g, o, hg, hc0⟩ := HA.out k hl'
      obtain ⟨g', o', hg', hc0'⟩ := HB.out k hl'
      subst hg hg'
      have hc := (hb.cell (p := ⟨g, o + k, none⟩) (cell_lt hc0)).trans hc0
      have hc' := (hb.cell (p := ⟨g', o' + k, none⟩) (cell_lt hc0')).trans hc0'
      obtain ⟨x, hxe⟩ : ∃ x, l[k] = x := ⟨_, rfl⟩
      rw [hxe] at hc hc'
      clear hxe hl' hc0 hc0'
      have hx : (x.toList != x.toList) = false := by simp
      have hx2 : (x.toList == x.toList) = true := by simp
      go_wp2_with (first | (exfalso; rename_i hu _; simp [undef] at hu; done))
      go_quiet (fail)
      go_wp2
      exact ⟨⟨k + 1, by go_num, by omega, pw_drewN hb _⟩, by simp [intOf] <;> omega⟩
    · go_wp2_with (first | (exfalso; rename_i hu _; simp [undef] at hu; done))
      go_ret
      exact ⟨rfl, hb⟩
end Go.Proofs.YtcfmaeonginefaaGreatDoor.Same7
