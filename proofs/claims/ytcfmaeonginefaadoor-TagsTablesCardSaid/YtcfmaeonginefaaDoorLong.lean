/- graftbedlaw14.long, graftbedlaw14.same: what they answer. -/
import Derived.Test.YtcfmaeonginefaaDoorCheck
import Derived.Deep.QuietTactic
import Derived.BigQuiet
namespace Go.Proofs.YtcfmaeonginefaaDoor.Long
open Go Go.RowKit Go.Proofs.YtcfmaeonginefaaDoor.Made Go.Proofs.YtcfmaeonginefaaDoor.Base Go.Proofs.YtcfmaeonginefaaDoor.Sets Go.Proofs.YtcfmaeonginefaaDoor.Check
set_option linter.unusedSimpArgs false
set_option linter.unusedVariables false

def shortB (x : ByteArray) : Bool := decide (x.size ≤ 100)
def longB (l : List ByteArray) : Bool := !(l.take 60).all shortB
theorem long_no {l : List ByteArray} (h : longB l = false) (hl : l.length ≤ 60) : ∀ x ∈ l, x.size ≤ 100 := fun x hx => by
  unfold longB at h
  rw [List.take_of_length_le hl, Bool.not_eq_false', List.all_eq_true] at h
  have := h x hx
  unfold shortB at this
  exact of_decide_eq_true this
set_option maxRecDepth 100000 in
set_option maxHeartbeats 2000000 in
theorem long {v : Value} {l : List ByteArray} (w : World) (h : Rq w v l) (hn : l.length ≤ 9223372036854775807) : Calls Tryd.prog 8 #[v] w fun e w' => e = .returned (.bool (longB l)) ∧ w = w' := by
  obtain ⟨A, c, rfl, -, -, hr⟩ := h
  have HA := Lib.hid hr
  obtain ⟨n, hnn⟩ : ∃ n, l.length = n := ⟨_, rfl⟩
  rw [hnn] at hn ⊢
  have HN := Lib.hid hnn
  obtain ⟨R, hR⟩ : ∃ R, longB l = R := ⟨_, rfl⟩
  rw [hR]
  have HR := Lib.hid hR
  clear hr hnn hR
  go_enter Tryd.func8, Tryd.ntmps8
  go_wp2
  go_loop [3] (fun i => ∃ k : Nat, i = .int .i64 k ∧ k ≤ n ∧ k ≤ 60 ∧ Hid ((l.take k).all shortB = true)) (fun i => n - (intOf i).toNat)
  case atStart => exact ⟨0, rfl, Nat.zero_le _, by omega, Lib.hid rfl⟩
  case round =>
    obtain ⟨k, rfl, hk, hk6, HI⟩ := hrel
    by_cases hlt : k < n
    · have hki : (k : Int) < n := by omega
      have hl' : k < l.length := by rw [HN.out]; exact hlt
      by_cases h60 : k < 60
      · have h60i : (k : Int) < 60 := by omega
        obtain ⟨g, o, hg, hc⟩ := HA.out k hl'
        subst hg
        have HTT := Lib.hid (take_all shortB l k hl' HI.out)
        have HFF := Lib.hid (show shortB l[k] = false → longB l = true from fun hf => by
          unfold longB
          rw [all_false shortB (l.take 60) k (by rw [List.length_take]; omega) (by rw [List.getElem_take]; exact hf)]; rfl)
        obtain ⟨x, hxe⟩ : ∃ x, l[k] = x := ⟨_, rfl⟩
        rw [hxe] at hc HTT HFF
        clear hxe hl'
        by_cases hs : x.size ≤ 100
        · have HS := Lib.hid (show (l.take (k + 1)).all shortB = true by rw [HTT.out]; exact decide_eq_true hs)
          have hsi : (x.size : Int) ≤ 100 := by omega
          go_wp2_with (first | (exfalso; rename_i hu _; simp [undef] at hu; done))
          go_round
          case rel => exact ⟨k + 1, by go_num, by omega, by omega, HS⟩
          case measure => simp [intOf] <;> omega
        · have HS := Lib.hid (show R = true by rw [← HR.out]; exact HFF.out (decide_eq_false hs))
          have hsi : (100 : Int) < x.size := by omega
          go_wp2_with (first | (exfalso; rename_i hu _; simp [undef] at hu; done))
          go_ret
          exact ⟨ret_bool HS.out.symm, rfl⟩
      · obtain rfl : k = 60 := by omega
        have HS := Lib.hid (show R = false by rw [← HR.out]; unfold longB; rw [HI.out]; rfl)
        go_wp2_with (first | (exfalso; rename_i hu _; simp [undef] at hu; done))
        go_ret
        exact ⟨ret_bool HS.out.symm, rfl⟩
    · have HS := Lib.hid (show R = false by
        rw [← HR.out]; unfold longB
        have h := HI.out
        rw [List.take_of_length_le (by have := HN.out; omega)] at h
        rw [List.take_of_length_le (by have := HN.out; omega), h]; rfl)
      go_wp2_with (first | (exfalso; rename_i hu _; simp [undef] at hu; done))
      go_ret
      exact ⟨ret_bool HS.out.symm, rfl⟩
end Go.Proofs.YtcfmaeonginefaaDoor.Long
