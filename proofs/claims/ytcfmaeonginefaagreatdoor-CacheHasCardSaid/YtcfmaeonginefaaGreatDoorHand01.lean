/- graftbedref01.Elems: what it answers. -/
import Derived.Test.YtcfmaeonginefaaGreatDoorSplit3
import Derived.Test.YtcfmaeonginefaaGreatDoorModule
namespace Go.Proofs.YtcfmaeonginefaaGreatDoor.Hand01
open Go Go.RowKit Go.Shelf Go.Proofs.YtcfmaeonginefaaGreatDoor.Seq Go.Proofs.YtcfmaeonginefaaGreatDoor.Cut Go.Proofs.YtcfmaeonginefaaGreatDoor.Elems Go.Proofs.YtcfmaeonginefaaGreatDoor.Paths Go.Proofs.YtcfmaeonginefaaGreatDoor.Made Go.Proofs.YtcfmaeonginefaaGreatDoor.Idents Go.Proofs.YtcfmaeonginefaaGreatDoor.Num3 Go.Proofs.YtcfmaeonginefaaGreatDoor.Split3
set_option linter.unusedSimpArgs false
set_option linter.unusedVariables false

set_option maxRecDepth 100000 in
set_option maxHeartbeats 2000000 in
theorem elems01 (s : ByteArray) (hs : s.size ≤ 1048576) (w : World) : Calls Tryz.prog 70 #[.string s] w fun e w' => ∃ v, e = .returned v ∧ w'.ownsRow w.heap.size 9 1 v (elemsB s).length ((elemsB s).map Value.string) ∧ Below w.heap.size w w' := by
  have eL : s.data.toList.length = s.size := by rw [Array.length_toList]; rfl
  obtain ⟨i0, hi, hz0, hz1, hz2⟩ := info_parts Collect.infoS
  cases hem : s.toList.isEmpty with
  | true =>
    have e : elemsB s = [] := by unfold elemsB; rw [hem]; rfl
    rw [e]
    clear e
    go_enter Tryz.func70, Tryz.ntmps70
    go_wp2
    go_ret
    exact ⟨_, rfl, World.ownsRow_lit w #[] 0 (Nat.le_refl _) (by decide) rfl, (Below.refl _ w).alloc (Nat.le_refl _) _⟩
  | false =>
  have heq : elemsB s = splB 47 s := by unfold elemsB; rw [hem]; rfl
  rw [heq]
  clear heq
  go_enter Tryz.func70, Tryz.ntmps70
  go_wp2
  go_loopw [3, 4, 5] (fun v fv iv wr => ∃ (k f : Nat) (pre : List (List UInt8)), fv = .int .i64 f ∧ iv = .int .i64 k ∧ Rel 47 s.data.toList k f pre ∧ wr.ownsRow w.heap.size 9 1 v pre.length (pre.map strV) ∧ Below w.heap.size w wr ∧ w.heap.size ≤ wr.heap.size)
    (fun v fv iv wr => s.size + 2 - (intOf iv).toNat)
  case atStart =>
    refine ⟨0, 0, [], rfl, rfl, .inl ⟨Nat.zero_le _, Nat.le_refl _, rfl, by simp⟩, World.ownsRow_lit w #[] 0 (Nat.le_refl _) (by decide) rfl, (Below.refl _ w).alloc (Nat.le_refl _) _, by simp⟩
  case round =>
    obtain ⟨k, f, pre, rfl, rfl, hR, hrow, hB, hsz⟩ := hrel
    have hle := rel_le hR
    have hln := rel_len hR
    by_cases hk : k ≤ s.size
    · by_cases hlt : k < s.size
      · by_cases hc : s[k] = 47
        · have hR2 := rel_at hR (by omega) (show s.data.toList[k]'(by omega) = 47 from hc)
          have hln2 := rel_len hR2.2
          have hcb : ((s[k].toNat : Int) == 47) = true := by rw [hc]; simp
          have hne : ((k : Int) == s.size) = false := by rw [beq_eq_false_iff_ne]; omega
          have hf0 : (0 : Int) ≤ f := by omega
          have hfk : (f : Int) ≤ k := by omega
          have hks : (k : Int) ≤ s.size := by omega
          have HX := Lib.hid (show s.extract f k = mk ((s.data.toList.drop f).take (k - f)) from extract_mk s f k)
          have HR := Lib.hid hR2.2
          simp only [List.length_append, List.length_singleton] at hln2
          have hcl := rowgrow hB hsz hrow (.cells #[.string (s.extract f k)] 9)
          clear hR hR2 hc hle
          go_wp2_with (at_builtin; refine wpList_append_own _ rfl _ _ 32 rfl w.heap.size 9 i0 (.string ⟨#[]⟩) 1 16 Tryz.underlying32 hi hz0 hz1 hz2 rfl (by decide) _ _ _ rfl (hrow.alloc _) ⟨wr.heap.size, 0, none⟩ 1 1 [.string (s.extract f k)] rfl rfl (cell_one_new _ _ _) (by simp [Value.oneCell']) (by unfold maxLen; omega) (by omega) (by simp; omega) ?_; intro v' w1 hown' hgrow _; have hcl1 := hcl _ hgrow)
          go_roundw
          case rel =>
            refine ⟨k + 1, k + 1, _, by go_num, by go_num, HR.out, ?_, hcl1.1, hcl1.2⟩
            rw [HX.out] at hown'
            simpa [strV] using hown'
          case measure => simp [intOf]; omega
        · have hR2 := rel_go hR (by omega) (show s.data.toList[k]'(by omega) ≠ 47 from hc)
          have hcb : ((s[k].toNat : Int) == 47) = false := by
            rw [beq_eq_false_iff_ne]
            intro h
            exact hc (UInt8.toNat_inj.1 (by have : (47 : UInt8).toNat = 47 := rfl; omega))
          have hne : ((k : Int) == s.size) = false := by rw [beq_eq_false_iff_ne]; omega
          have HR := Lib.hid hR2
          clear hR hR2 hc hle
          go_wp2
          go_roundw
          case rel => exact ⟨k + 1, f, pre, rfl, by go_num, HR.out, hrow, hB, hsz⟩
          case measure => simp [intOf]; omega
      · obtain rfl : k = s.size := by omega
        have hR2 := rel_end (show Rel 47 s.data.toList s.data.toList.length f pre by rw [eL]; exact hR)
        rw [eL] at hR2
        have hln2 := rel_len hR2.2
        have hf0 : (0 : Int) ≤ f := by omega
        have hfk : (f : Int) ≤ s.size := by omega
        have HX := Lib.hid (show s.extract f s.size = mk ((s.data.toList.drop f).take (s.size - f)) from extract_mk s f s.size)
        have HR := Lib.hid hR2.2
        simp only [List.length_append, List.length_singleton] at hln2
        have hcl := rowgrow hB hsz hrow (.cells #[.string (s.extract f s.size)] 9)
        clear hR hR2 hle
        go_wp2_with (at_builtin; refine wpList_append_own _ rfl _ _ 32 rfl w.heap.size 9 i0 (.string ⟨#[]⟩) 1 16 Tryz.underlying32 hi hz0 hz1 hz2 rfl (by decide) _ _ _ rfl (hrow.alloc _) ⟨wr.heap.size, 0, none⟩ 1 1 [.string (s.extract f s.size)] rfl rfl (cell_one_new _ _ _) (by simp [Value.oneCell']) (by unfold maxLen; omega) (by omega) (by simp; omega) ?_; intro v' w1 hown' hgrow _; have hcl1 := hcl _ hgrow)
        go_roundw
        case rel =>
          refine ⟨s.size + 1, s.size + 1, _, by go_num, by go_num, HR.out, ?_, hcl1.1, hcl1.2⟩
          rw [HX.out] at hown'
          simpa [strV] using hown'
        case measure => simp [intOf] <;> omega
    · have hR2 := rel_done hR (by omega)
      have hl : (splB 47 s).length = pre.length := by unfold splB; rw [hR2, List.length_map]
      have hm : (splB 47 s).map Value.string = pre.map strV := by unfold splB; rw [hR2, List.map_map]; rfl
      have HL := Lib.hid hl
      have HM := Lib.hid hm
      clear hR hR2 hl hm hle
      go_wp2
      go_ret
      exact ⟨_, rfl, by rw [HL.out, HM.out]; exact hrow, hB⟩
end Go.Proofs.YtcfmaeonginefaaGreatDoor.Hand01
