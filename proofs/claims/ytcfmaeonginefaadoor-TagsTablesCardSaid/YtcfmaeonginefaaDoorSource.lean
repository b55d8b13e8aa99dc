/- tags.Source, graftbedref14.Source: what they answer. -/
import Derived.Test.YtcfmaeonginefaaDoorRefImp
namespace Go.Proofs.YtcfmaeonginefaaDoor.Source
open Go Go.RowKit Go.Shelf Go.Proofs.YtcfmaeonginefaaDoor.Cut Go.Proofs.YtcfmaeonginefaaDoor.Elems Go.Proofs.YtcfmaeonginefaaDoor.Made Go.Proofs.YtcfmaeonginefaaDoor.Base Go.Proofs.YtcfmaeonginefaaDoor.RefMade Go.Proofs.YtcfmaeonginefaaDoor.RefImp
set_option linter.unusedSimpArgs false
set_option linter.unusedVariables false

def srcB (s : ByteArray) : Bool := Lib.hasSuffix s.data.toList [46, 103, 111] && !Lib.hasPrefix s.data.toList [95] && !Lib.hasPrefix s.data.toList [46]
set_option maxRecDepth 100000 in
set_option maxHeartbeats 1000000 in
theorem source (s : ByteArray) (hs : s.size ≤ 1048576) (w : World) : Calls Tryd.prog 16 #[.string s] w fun e w' => e = .returned (.bool (srcB s)) ∧ w = w' := by
  obtain ⟨a, ha⟩ : ∃ a, Lib.hasSuffix s.data.toList [46, 103, 111] = a := ⟨_, rfl⟩
  obtain ⟨b, hb⟩ : ∃ b, Lib.hasPrefix s.data.toList [95] = b := ⟨_, rfl⟩
  obtain ⟨c, hc⟩ : ∃ c, Lib.hasPrefix s.data.toList [46] = c := ⟨_, rfl⟩
  have HR := Lib.hid (show srcB s = (a && !b && !c) by unfold srcB; rw [ha, hb, hc])
  have hA := (Tryd.strings_HasSuffix s ⟨#[46, 103, 111]⟩ w (by omega)).mono fun e w' h => (⟨by rw [h.1]; exact congrArg (fun t => Ending.returned (.bool t)) ha, h.2⟩ : e = .returned (.bool a) ∧ w' = w)
  have hB := (Tryd.strings_HasPrefix s ⟨#[95]⟩ w).mono fun e w' h => (⟨by rw [h.1]; exact congrArg (fun t => Ending.returned (.bool t)) hb, h.2⟩ : e = .returned (.bool b) ∧ w' = w)
  have hC := (Tryd.strings_HasPrefix s ⟨#[46]⟩ w).mono fun e w' h => (⟨by rw [h.1]; exact congrArg (fun t => Ending.returned (.bool t)) hc, h.2⟩ : e = .returned (.bool c) ∧ w' = w)
  clear ha hb hc
  cases a <;> cases b <;> cases c
  all_goals
    go_enter Tryd.func16, Tryd.ntmps16
    go_wp2_with (first
      | (exfalso; rename_i hu _; simp [undef] at hu; done)
      | (go_at_call 41; refine hA.mono ?_; rintro e w' ⟨rfl, rfl⟩)
      | (go_at_call 42; refine hB.mono ?_; rintro e w' ⟨rfl, rfl⟩)
      | (go_at_call 42; refine hC.mono ?_; rintro e w' ⟨rfl, rfl⟩))
    go_ret
    exact ⟨ret_bool HR.out.symm, rfl⟩

theorem src_short (s : ByteArray) (h : s.size < 3) : srcB s = false := by
  unfold srcB
  rw [← Lib.hasSuffix_of_drop]
  have : decide (([46, 103, 111] : List UInt8).length ≤ s.data.toList.length) = false := decide_eq_false (by have := size_list s; simp; omega)
  rw [this]; rfl
theorem pre_one (s : ByteArray) (h : 0 < s.size) (c : UInt8) : Lib.hasPrefix s.data.toList [c] = ((s[0].toNat : Int) == c.toNat) := by
  have e := drop_cons s 0 h
  rw [List.drop_zero] at e
  have hg : s.data.toList[0]'(by rw [size_list]; exact h) = s[0] := rfl
  rw [e, hg, Bool.eq_iff_iff, beq_iff_eq]
  unfold Lib.hasPrefix
  rw [List.isPrefixOf_cons_cons, Bool.and_eq_true, beq_iff_eq, List.isPrefixOf_nil_left]
  constructor
  · rintro ⟨h, _⟩; rw [h]
  · intro h; exact ⟨(UInt8.toNat_inj.1 (by omega)), rfl⟩
set_option maxRecDepth 100000 in
set_option maxHeartbeats 2000000 in
theorem source14 (s : ByteArray) (hs : s.size ≤ 1048576) (w : World) : Calls Tryd.prog 17 #[.string s] w fun e w' => e = .returned (.bool (srcB s)) ∧ w = w' := by
  by_cases h3 : s.size < 3
  · have HR := Lib.hid (src_short s h3)
    go_enter Tryd.func17, Tryd.ntmps17
    go_wp2_with (first | (exfalso; rename_i hu _; simp [undef] at hu; done))
    go_ret
    exact ⟨ret_bool HR.out.symm, rfl⟩
  · obtain ⟨m, hm⟩ : ∃ m, s.size - 3 = m := ⟨_, rfl⟩
    have h0 : 0 < s.size := by omega
    have h0i : (0 : Int) < s.size := by omega
    have hml : (m : Int) ≤ s.size := by omega
    have hm0 : (0 : Int) ≤ m := by omega
    have hw1 : IntKind.i64.wrap ((s.size : Int) - 3) = (m : Int) := by rw [IntWalk.i64_in _ (by omega)]; omega
    have hw2 : (s.size : Int) - 3 = (m : Int) := by omega
    have hsuf : Lib.hasSuffix s.data.toList [46, 103, 111] = ((s.extract m s.size).toList == [46, 103, 111]) := by
      rw [← Lib.hasSuffix_of_drop]
      have : decide (([46, 103, 111] : List UInt8).length ≤ s.data.toList.length) = true := decide_eq_true (by have := size_list s; simp; omega)
      rw [this, Bool.true_and]
      have hl := size_list s
      rw [show (s.extract m s.size).toList = s.data.toList.drop (s.data.toList.length - ([46, 103, 111] : List UInt8).length) by
        rw [extract_mk, ByteArray.toList_eq]
        show ((s.data.toList.drop m).take (s.size - m)) = _
        rw [List.take_of_length_le (by rw [List.length_drop]; omega)]
        congr 1
        simp; omega]
    have HR := Lib.hid (show srcB s = (((s.extract m s.size).toList == [46, 103, 111]) && !((s[0].toNat : Int) == 95) && !((s[0].toNat : Int) == 46)) by
      unfold srcB; rw [hsuf, pre_one s h0, pre_one s h0]; rfl)
    obtain ⟨a, ha⟩ : ∃ a, ((s.extract m s.size).toList == [46, 103, 111]) = a := ⟨_, rfl⟩
    rw [ha] at HR
    clear hsuf h3
    have hbc : ((s[0].toNat : Int) = 95 ∧ ¬ (s[0].toNat : Int) = 46) ∨ (¬ (s[0].toNat : Int) = 95 ∧ (s[0].toNat : Int) = 46) ∨ (¬ (s[0].toNat : Int) = 95 ∧ ¬ (s[0].toNat : Int) = 46) := by omega
    rcases hbc with ⟨b, c⟩ | ⟨b, c⟩ | ⟨b, c⟩
    all_goals
      have nb : ((s[0].toNat : Int) != 95) = decide (¬ (s[0].toNat : Int) = 95) := by
        rw [Bool.eq_iff_iff]; simp
      have nc : ((s[0].toNat : Int) != 46) = decide (¬ (s[0].toNat : Int) = 46) := by
        rw [Bool.eq_iff_iff]; simp
      have HR2 := Lib.hid (show srcB s = (a && decide (¬ (s[0].toNat : Int) = 95) && decide (¬ (s[0].toNat : Int) = 46)) by rw [HR.out, ← nb, ← nc]; rfl)
      simp only [b, c, not_true_eq_false, not_false_eq_true, decide_true, decide_false] at nb nc HR2
    all_goals cases a
    all_goals
      go_enter Tryd.func17, Tryd.ntmps17
      go_wp2_with (first | (exfalso; rename_i hu _; simp [undef] at hu; done))
      go_ret
      exact ⟨ret_bool HR2.out.symm, rfl⟩
end Go.Proofs.YtcfmaeonginefaaDoor.Source
