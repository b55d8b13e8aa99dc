-- Printed by this session's own program (wip/fprint.py) over the kit's print. Lean checks it.
import Derived.Test.YtcfmaeonginefaaPAx0
namespace Go.Proofs.Ytcfmaeonginefaa.PA
open Go.RowKit Go.Proofs.YtcfmaeonginefaaW.PrintWords Go.Proofs.YtcfmaeonginefaaW.PrintLast Go.Proofs.YtcfmaeonginefaaW.PrintMore
attribute [local go_sem] max2_int min2_int max_two min_two max_three min_three max_four min_four   -- for this text's walks alone
set_option linter.unusedVariables false
set_option linter.unusedSimpArgs false


/-! ### graftbedref01_made: function 23 -/
mutual
def graftbedref01_made.l0 : Nat → ByteArray → Bool → ByteArray → Int → Option (Bool)
  | 0, _, _, _, _ => none
  | k + 1, x0, x1, x2, x7 => if x7 < (x0.size : Int) then (if 0 ≤ x7 then (if (bt x0 x7) ≥ 97 then (if (bt x0 x7) ≤ 122 then (graftbedref01_made.j1 k x0 x1 x2 x7 (bt x0 x7) true) else (if (bt x0 x7) ≥ 48 then (if (bt x0 x7) ≤ 57 then (graftbedref01_made.j1 k x0 x1 x2 x7 (bt x0 x7) true) else (if x1 = true then (if (bt x0 x7) ≥ 65 then (graftbedref01_made.j1 k x0 x1 x2 x7 (bt x0 x7) (decide ((bt x0 x7) ≤ 90))) else (graftbedref01_made.j1 k x0 x1 x2 x7 (bt x0 x7) false)) else (graftbedref01_made.j1 k x0 x1 x2 x7 (bt x0 x7) false))) else (if x1 = true then (if (bt x0 x7) ≥ 65 then (graftbedref01_made.j1 k x0 x1 x2 x7 (bt x0 x7) (decide ((bt x0 x7) ≤ 90))) else (graftbedref01_made.j1 k x0 x1 x2 x7 (bt x0 x7) false)) else (graftbedref01_made.j1 k x0 x1 x2 x7 (bt x0 x7) false)))) else (if (bt x0 x7) ≥ 48 then (if (bt x0 x7) ≤ 57 then (graftbedref01_made.j1 k x0 x1 x2 x7 (bt x0 x7) true) else (if x1 = true then (if (bt x0 x7) ≥ 65 then (graftbedref01_made.j1 k x0 x1 x2 x7 (bt x0 x7) (decide ((bt x0 x7) ≤ 90))) else (graftbedref01_made.j1 k x0 x1 x2 x7 (bt x0 x7) false)) else (graftbedref01_made.j1 k x0 x1 x2 x7 (bt x0 x7) false))) else (if x1 = true then (if (bt x0 x7) ≥ 65 then (graftbedref01_made.j1 k x0 x1 x2 x7 (bt x0 x7) (decide ((bt x0 x7) ≤ 90))) else (graftbedref01_made.j1 k x0 x1 x2 x7 (bt x0 x7) false)) else (graftbedref01_made.j1 k x0 x1 x2 x7 (bt x0 x7) false)))) else (none)) else (some true)
def graftbedref01_made.j1 : Nat → ByteArray → Bool → ByteArray → Int → Int → Bool → Option (Bool)
  | 0, _, _, _, _, _, _ => none
  | k + 1, x0, x1, x2, x7, x8, x9 => graftbedref01_made.l1 k x0 x1 x2 x7 x8 x9 0
def graftbedref01_made.l1 : Nat → ByteArray → Bool → ByteArray → Int → Int → Bool → Int → Option (Bool)
  | 0, _, _, _, _, _, _, _ => none
  | k + 1, x0, x1, x2, x7, x8, x9, x10 => if x10 < (x2.size : Int) then (if x9 = true then (graftbedref01_made.l1 k x0 x1 x2 x7 x8 true (wrap64 (x10 + 1))) else (if 0 ≤ x10 then (graftbedref01_made.l1 k x0 x1 x2 x7 x8 ((bt x2 x10) == x8) (wrap64 (x10 + 1))) else (none))) else (if x9 = true then (graftbedref01_made.l0 k x0 x1 x2 (wrap64 (x7 + 1))) else (some false))
end
def graftbedref01_made.f (k : Nat) (a0 : ByteArray) (a1 : Bool) (a2 : ByteArray) : Option (Bool) := graftbedref01_made.l0 k a0 a1 a2 0
theorem graftbedref01_made.mono_l : ∀ k, (∀ y0 y1 y2 y3, LeO (graftbedref01_made.l0 k y0 y1 y2 y3) (graftbedref01_made.l0 (k + 1) y0 y1 y2 y3)) ∧ (∀ y0 y1 y2 y3 y4 y5, LeO (graftbedref01_made.j1 k y0 y1 y2 y3 y4 y5) (graftbedref01_made.j1 (k + 1) y0 y1 y2 y3 y4 y5)) ∧ (∀ y0 y1 y2 y3 y4 y5 y6, LeO (graftbedref01_made.l1 k y0 y1 y2 y3 y4 y5 y6) (graftbedref01_made.l1 (k + 1) y0 y1 y2 y3 y4 y5 y6))
  | 0 => ⟨fun _ _ _ _ r h => by simp [graftbedref01_made.l0] at h, fun _ _ _ _ _ _ r h => by simp [graftbedref01_made.j1] at h, fun _ _ _ _ _ _ _ r h => by simp [graftbedref01_made.l1] at h⟩
  | k + 1 => by
    obtain ⟨ih0, ih1, ih2⟩ := graftbedref01_made.mono_l k
    refine ⟨?_, ?_, ?_⟩
    · intro y0 y1 y2 y3
      unfold graftbedref01_made.l0
      repeat' first
      | (with_reducible exact ih0 _ _ _ _)
      | (with_reducible exact ih1 _ _ _ _ _ _)
      | (with_reducible exact ih2 _ _ _ _ _ _ _)
      | (with_reducible exact LeO.refl _)
      | (with_reducible exact LeO.none _)
      | (with_reducible refine LeO.ite ?_ ?_)
      | (with_reducible refine LeO.bind ?_ (fun _ => ?_))
      | exact ih0 _ _ _ _
      | exact ih1 _ _ _ _ _ _
      | exact ih2 _ _ _ _ _ _ _
      | exact LeO.none _
      | refine LeO.ite ?_ ?_
      | refine LeO.bind ?_ (fun _ => ?_)
    · intro y0 y1 y2 y3 y4 y5
      unfold graftbedref01_made.j1
      repeat' first
      | (with_reducible exact ih0 _ _ _ _)
      | (with_reducible exact ih1 _ _ _ _ _ _)
      | (with_reducible exact ih2 _ _ _ _ _ _ _)
      | (with_reducible exact LeO.refl _)
      | (with_reducible exact LeO.none _)
      | (with_reducible refine LeO.ite ?_ ?_)
      | (with_reducible refine LeO.bind ?_ (fun _ => ?_))
      | exact ih0 _ _ _ _
      | exact ih1 _ _ _ _ _ _
      | exact ih2 _ _ _ _ _ _ _
      | exact LeO.none _
      | refine LeO.ite ?_ ?_
      | refine LeO.bind ?_ (fun _ => ?_)
    · intro y0 y1 y2 y3 y4 y5 y6
      unfold graftbedref01_made.l1
      repeat' first
      | (with_reducible exact ih0 _ _ _ _)
      | (with_reducible exact ih1 _ _ _ _ _ _)
      | (with_reducible exact ih2 _ _ _ _ _ _ _)
      | (with_reducible exact LeO.refl _)
      | (with_reducible exact LeO.none _)
      | (with_reducible refine LeO.ite ?_ ?_)
      | (with_reducible refine LeO.bind ?_ (fun _ => ?_))
      | exact ih0 _ _ _ _
      | exact ih1 _ _ _ _ _ _
      | exact ih2 _ _ _ _ _ _ _
      | exact LeO.none _
      | refine LeO.ite ?_ ?_
      | refine LeO.bind ?_ (fun _ => ?_)
theorem graftbedref01_made.mono : ∀ a0 a1 a2 k, LeO (graftbedref01_made.f k a0 a1 a2) (graftbedref01_made.f (k + 1) a0 a1 a2) := by
  intro a0 a1 a2 k
  obtain ⟨ih0, ih1, ih2⟩ := graftbedref01_made.mono_l k
  unfold graftbedref01_made.f
  repeat' first
      | (with_reducible exact ih0 _ _ _ _)
      | (with_reducible exact ih1 _ _ _ _ _ _)
      | (with_reducible exact ih2 _ _ _ _ _ _ _)
      | (with_reducible exact LeO.refl _)
      | (with_reducible exact LeO.none _)
      | (with_reducible refine LeO.ite ?_ ?_)
      | (with_reducible refine LeO.bind ?_ (fun _ => ?_))
      | exact ih0 _ _ _ _
      | exact ih1 _ _ _ _ _ _
      | exact ih2 _ _ _ _ _ _ _
      | exact LeO.none _
      | refine LeO.ite ?_ ?_
      | refine LeO.bind ?_ (fun _ => ?_)
set_option maxHeartbeats 8000000 in
set_option maxRecDepth 100000 in
theorem graftbedref01_made.calls (k : Nat) (a0 : ByteArray) (a1 : Bool) (a2 : ByteArray) (r : Bool) (w : World) (h : graftbedref01_made.f k a0 a1 a2 = some r) :
    Calls Try.prog 23 #[.string a0, .bool a1, .string a2] w fun e w' => e = .returned (.bool r) ∧ Drawn0 w w' := by
  have H : (graftbedref01_made.l0 k a0 a1 a2 0) = some r := h
  clear h
  have H' := Aside0.mk H
  clear H
  go_enter Try.func23, Try.ntmps23
  go_wp2
  go_loopg [7] k (fun kq v7 w' => ∃ (x7_1 : Int), v7 = .int .i64 x7_1 ∧ Aside0 (graftbedref01_made.l0 kq a0 a1 a2 x7_1 = some r) ∧ Aside0 (kq ≤ k) ∧ Drawn0 w w')
  case atStart => exact ⟨(0), (by first | rfl | (simp; done) | (simp [*]; done)), H', ⟨Nat.le_refl _⟩, by repeat (first | exact Drawn0.refl _ | apply Drawn0.step)⟩
  case round =>
    clear H'
    try clear c2
    try clear p2
    obtain ⟨x7_1, rfl, HA, HK1, ⟨m1, rfl⟩⟩ := hrel
    cases gk with
    | zero => exact absurd HA.out (by simp [graftbedref01_made.l0])
    | succ k1 =>
      have H := HA.out
      clear HA
      simp only [graftbedref01_made.l0] at H
      by_cases c4 : x7_1 < (a0.size : Int)
      · rw [if_pos c4] at H
        have c4b0 : decide (x7_1 < (a0.size : Int)) = true := decide_eq_true c4
        clear c4
        by_cases c5 : 0 ≤ x7_1
        · rw [if_pos c5] at H
          have c5b0 : decide (0 ≤ x7_1) = true := decide_eq_true c5
          clear c5
          have HC7 := Aside0.mk H
          clear H
          have p6 : 0 ≤ (x7_1 : Int) := of_decide_eq_true (by first | (with_reducible assumption) | assumption)
          have q6 : x7_1 < (a0.size : Int) := of_decide_eq_true (by first | (with_reducible assumption) | assumption)
          have hx6 := bt_at a0 x7_1
          replace p6 := eq_true p6
          replace q6 := eq_true q6
          go_upto_region 5 with (fail)
          go_cut [9] (fun v9 wc => ∃ (kq : Nat) (x9_6 : Bool), v9 = .bool x9_6 ∧ Aside0 (graftbedref01_made.j1 kq a0 a1 a2 x7_1 (bt a0 x7_1) x9_6 = some r) ∧ Aside0 (kq ≤ k1) ∧ Drawn0 w wc)
          case first =>
            have H := HC7.out
            clear HC7
            by_cases c8 : (bt a0 x7_1) ≥ 97
            · rw [if_pos c8] at H
              have c8b0 : decide (97 ≤ (bt a0 x7_1)) = true := decide_eq_true c8
              clear c8
              (first | rw [c8b0] | (simp only [i64_w, i32_w]; rw [c8b0]) | skip)
              by_cases c9 : (bt a0 x7_1) ≤ 122
              · rw [if_pos c9] at H
                have c9b0 : decide ((bt a0 x7_1) ≤ 122) = true := decide_eq_true c9
                clear c9
                have H' := Aside0.mk H
                clear H
                go_wp2
                go_meet
                case rel => exact ⟨_, (true), (by first | rfl | (simp; done) | (simp [*]; done)), H', ⟨by have := HK1.out; first | omega | exact Nat.le_refl _⟩, by repeat (first | exact Drawn0.refl _ | apply Drawn0.step)⟩
              · rw [if_neg c9] at H
                have c9b0 : decide ((bt a0 x7_1) ≤ 122) = false := decide_eq_false c9
                clear c9
                by_cases c10 : (bt a0 x7_1) ≥ 48
                · rw [if_pos c10] at H
                  have c10b0 : decide (48 ≤ (bt a0 x7_1)) = true := decide_eq_true c10
                  clear c10
                  by_cases c11 : (bt a0 x7_1) ≤ 57
                  · rw [if_pos c11] at H
                    have c11b0 : decide ((bt a0 x7_1) ≤ 57) = true := decide_eq_true c11
                    clear c11
                    have H' := Aside0.mk H
                    clear H
                    go_wp2
                    go_meet
                    case rel => exact ⟨_, (true), (by first | rfl | (simp; done) | (simp [*]; done)), H', ⟨by have := HK1.out; first | omega | exact Nat.le_refl _⟩, by repeat (first | exact Drawn0.refl _ | apply Drawn0.step)⟩
                  · rw [if_neg c11] at H
                    have c11b0 : decide ((bt a0 x7_1) ≤ 57) = false := decide_eq_false c11
                    clear c11
                    by_cases c12 : a1 = true
                    · subst c12
                      have H1 : (if (bt a0 x7_1) ≥ 65 then (graftbedref01_made.j1 k1 a0 true a2 x7_1 (bt a0 x7_1) (decide ((bt a0 x7_1) ≤ 90))) else (graftbedref01_made.j1 k1 a0 true a2 x7_1 (bt a0 x7_1) false)) = some r := by rw [if_pos rfl] at H; exact H
                      clear H
                      have H := H1
                      clear H1
                      by_cases c13 : (bt a0 x7_1) ≥ 65
                      · rw [if_pos c13] at H
                        have c13b0 : decide (65 ≤ (bt a0 x7_1)) = true := decide_eq_true c13
                        clear c13
                        have H' := Aside0.mk H
                        clear H
                        go_wp2
                        go_meet
                        case rel => exact ⟨_, (decide ((bt a0 x7_1) ≤ 90)), (by first | rfl | (simp; done) | (simp [*]; done)), H', ⟨by have := HK1.out; first | omega | exact Nat.le_refl _⟩, by repeat (first | exact Drawn0.refl _ | apply Drawn0.step)⟩
                      · rw [if_neg c13] at H
                        have c13b0 : decide (65 ≤ (bt a0 x7_1)) = false := decide_eq_false c13
                        clear c13
                        have H' := Aside0.mk H
                        clear H
                        go_wp2
                        go_meet
                        case rel => exact ⟨_, (false), (by first | rfl | (simp; done) | (simp [*]; done)), H', ⟨by have := HK1.out; first | omega | exact Nat.le_refl _⟩, by repeat (first | exact Drawn0.refl _ | apply Drawn0.step)⟩
                    · replace c12 := Bool.eq_false_iff.mpr c12
                      subst c12
                      have H1 : (graftbedref01_made.j1 k1 a0 false a2 x7_1 (bt a0 x7_1) false) = some r := by rw [if_neg (show ¬ (false = true) by decide)] at H; exact H
                      clear H
                      have H := H1
                      clear H1
                      have H' := Aside0.mk H
                      clear H
                      go_wp2
                      go_meet
                      case rel => exact ⟨_, (false), (by first | rfl | (simp; done) | (simp [*]; done)), H', ⟨by have := HK1.out; first | omega | exact Nat.le_refl _⟩, by repeat (first | exact Drawn0.refl _ | apply Drawn0.step)⟩
                · rw [if_neg c10] at H
                  have c10b0 : decide (48 ≤ (bt a0 x7_1)) = false := decide_eq_false c10
                  clear c10
                  by_cases c14 : a1 = true
                  · subst c14
                    have H1 : (if (bt a0 x7_1) ≥ 65 then (graftbedref01_made.j1 k1 a0 true a2 x7_1 (bt a0 x7_1) (decide ((bt a0 x7_1) ≤ 90))) else (graftbedref01_made.j1 k1 a0 true a2 x7_1 (bt a0 x7_1) false)) = some r := by rw [if_pos rfl] at H; exact H
                    clear H
                    have H := H1
                    clear H1
                    by_cases c15 : (bt a0 x7_1) ≥ 65
                    · rw [if_pos c15] at H
                      have c15b0 : decide (65 ≤ (bt a0 x7_1)) = true := decide_eq_true c15
                      clear c15
                      have H' := Aside0.mk H
                      clear H
                      go_wp2
                      go_meet
                      case rel => exact ⟨_, (decide ((bt a0 x7_1) ≤ 90)), (by first | rfl | (simp; done) | (simp [*]; done)), H', ⟨by have := HK1.out; first | omega | exact Nat.le_refl _⟩, by repeat (first | exact Drawn0.refl _ | apply Drawn0.step)⟩
                    · rw [if_neg c15] at H
                      have c15b0 : decide (65 ≤ (bt a0 x7_1)) = false := decide_eq_false c15
                      clear c15
                      have H' := Aside0.mk H
                      clear H
                      go_wp2
                      go_meet
                      case rel => exact ⟨_, (false), (by first | rfl | (simp; done) | (simp [*]; done)), H', ⟨by have := HK1.out; first | omega | exact Nat.le_refl _⟩, by repeat (first | exact Drawn0.refl _ | apply Drawn0.step)⟩
                  · replace c14 := Bool.eq_false_iff.mpr c14
                    subst c14
                    have H1 : (graftbedref01_made.j1 k1 a0 false a2 x7_1 (bt a0 x7_1) false) = some r := by rw [if_neg (show ¬ (false = true) by decide)] at H; exact H
                    clear H
                    have H := H1
                    clear H1
                    have H' := Aside0.mk H
                    clear H
                    go_wp2
                    go_meet
                    case rel => exact ⟨_, (false), (by first | rfl | (simp; done) | (simp [*]; done)), H', ⟨by have := HK1.out; first | omega | exact Nat.le_refl _⟩, by repeat (first | exact Drawn0.refl _ | apply Drawn0.step)⟩
            · rw [if_neg c8] at H
              have c8b0 : decide (97 ≤ (bt a0 x7_1)) = false := decide_eq_false c8
              clear c8
              (first | rw [c8b0] | (simp only [i64_w, i32_w]; rw [c8b0]) | skip)
              by_cases c16 : (bt a0 x7_1) ≥ 48
              · rw [if_pos c16] at H
                have c16b0 : decide (48 ≤ (bt a0 x7_1)) = true := decide_eq_true c16
                clear c16
                by_cases c17 : (bt a0 x7_1) ≤ 57
                · rw [if_pos c17] at H
                  have c17b0 : decide ((bt a0 x7_1) ≤ 57) = true := decide_eq_true c17
                  clear c17
                  have H' := Aside0.mk H
                  clear H
                  go_wp2
                  go_meet
                  case rel => exact ⟨_, (true), (by first | rfl | (simp; done) | (simp [*]; done)), H', ⟨by have := HK1.out; first | omega | exact Nat.le_refl _⟩, by repeat (first | exact Drawn0.refl _ | apply Drawn0.step)⟩
                · rw [if_neg c17] at H
                  have c17b0 : decide ((bt a0 x7_1) ≤ 57) = false := decide_eq_false c17
                  clear c17
                  by_cases c18 : a1 = true
                  · subst c18
                    have H1 : (if (bt a0 x7_1) ≥ 65 then (graftbedref01_made.j1 k1 a0 true a2 x7_1 (bt a0 x7_1) (decide ((bt a0 x7_1) ≤ 90))) else (graftbedref01_made.j1 k1 a0 true a2 x7_1 (bt a0 x7_1) false)) = some r := by rw [if_pos rfl] at H; exact H
                    clear H
                    have H := H1
                    clear H1
                    by_cases c19 : (bt a0 x7_1) ≥ 65
                    · rw [if_pos c19] at H
                      have c19b0 : decide (65 ≤ (bt a0 x7_1)) = true := decide_eq_true c19
                      clear c19
                      have H' := Aside0.mk H
                      clear H
                      go_wp2
                      go_meet
                      case rel => exact ⟨_, (decide ((bt a0 x7_1) ≤ 90)), (by first | rfl | (simp; done) | (simp [*]; done)), H', ⟨by have := HK1.out; first | omega | exact Nat.le_refl _⟩, by repeat (first | exact Drawn0.refl _ | apply Drawn0.step)⟩
                    · rw [if_neg c19] at H
                      have c19b0 : decide (65 ≤ (bt a0 x7_1)) = false := decide_eq_false c19
                      clear c19
                      have H' := Aside0.mk H
                      clear H
                      go_wp2
                      go_meet
                      case rel => exact ⟨_, (false), (by first | rfl | (simp; done) | (simp [*]; done)), H', ⟨by have := HK1.out; first | omega | exact Nat.le_refl _⟩, by repeat (first | exact Drawn0.refl _ | apply Drawn0.step)⟩
                  · replace c18 := Bool.eq_false_iff.mpr c18
                    subst c18
                    have H1 : (graftbedref01_made.j1 k1 a0 false a2 x7_1 (bt a0 x7_1) false) = some r := by rw [if_neg (show ¬ (false = true) by decide)] at H; exact H
                    clear H
                    have H := H1
                    clear H1
                    have H' := Aside0.mk H
                    clear H
                    go_wp2
                    go_meet
                    case rel => exact ⟨_, (false), (by first | rfl | (simp; done) | (simp [*]; done)), H', ⟨by have := HK1.out; first | omega | exact Nat.le_refl _⟩, by repeat (first | exact Drawn0.refl _ | apply Drawn0.step)⟩
              · rw [if_neg c16] at H
                have c16b0 : decide (48 ≤ (bt a0 x7_1)) = false := decide_eq_false c16
                clear c16
                by_cases c20 : a1 = true
                · subst c20
                  have H1 : (if (bt a0 x7_1) ≥ 65 then (graftbedref01_made.j1 k1 a0 true a2 x7_1 (bt a0 x7_1) (decide ((bt a0 x7_1) ≤ 90))) else (graftbedref01_made.j1 k1 a0 true a2 x7_1 (bt a0 x7_1) false)) = some r := by rw [if_pos rfl] at H; exact H
                  clear H
                  have H := H1
                  clear H1
                  by_cases c21 : (bt a0 x7_1) ≥ 65
                  · rw [if_pos c21] at H
                    have c21b0 : decide (65 ≤ (bt a0 x7_1)) = true := decide_eq_true c21
                    clear c21
                    have H' := Aside0.mk H
                    clear H
                    go_wp2
                    go_meet
                    case rel => exact ⟨_, (decide ((bt a0 x7_1) ≤ 90)), (by first | rfl | (simp; done) | (simp [*]; done)), H', ⟨by have := HK1.out; first | omega | exact Nat.le_refl _⟩, by repeat (first | exact Drawn0.refl _ | apply Drawn0.step)⟩
                  · rw [if_neg c21] at H
                    have c21b0 : decide (65 ≤ (bt a0 x7_1)) = false := decide_eq_false c21
                    clear c21
                    have H' := Aside0.mk H
                    clear H
                    go_wp2
                    go_meet
                    case rel => exact ⟨_, (false), (by first | rfl | (simp; done) | (simp [*]; done)), H', ⟨by have := HK1.out; first | omega | exact Nat.le_refl _⟩, by repeat (first | exact Drawn0.refl _ | apply Drawn0.step)⟩
                · replace c20 := Bool.eq_false_iff.mpr c20
                  subst c20
                  have H1 : (graftbedref01_made.j1 k1 a0 false a2 x7_1 (bt a0 x7_1) false) = some r := by rw [if_neg (show ¬ (false = true) by decide)] at H; exact H
                  clear H
                  have H := H1
                  clear H1
                  have H' := Aside0.mk H
                  clear H
                  go_wp2
                  go_meet
                  case rel => exact ⟨_, (false), (by first | rfl | (simp; done) | (simp [*]; done)), H', ⟨by have := HK1.out; first | omega | exact Nat.le_refl _⟩, by repeat (first | exact Drawn0.refl _ | apply Drawn0.step)⟩
          case rest =>
            clear HC7
            try clear c1
            try clear c2
            try clear p2
            try clear c4
            try clear c4b0
            try clear c5
            try clear c5b0
            try clear p6
            try clear q6
            try clear hx6
            try clear c8
            try clear c8b0
            try clear c9
            try clear c9b0
            try clear c10
            try clear c10b0
            try clear c11
            try clear c11b0
            try clear c12
            try clear c13
            try clear c13b0
            try clear c14
            try clear c15
            try clear c15b0
            try clear c16
            try clear c16b0
            try clear c17
            try clear c17b0
            try clear c18
            try clear c19
            try clear c19b0
            try clear c20
            try clear c21
            try clear c21b0
            try clear p2
            try clear p6
            try clear q6
            obtain ⟨kq, x9_6, rfl, HA, HJ6, ⟨mc6, rfl⟩⟩ := hcut
            cases kq with
            | zero => exact absurd HA.out (by simp [graftbedref01_made.j1])
            | succ kj6 =>
              have H := HA.out
              clear HA
              simp only [graftbedref01_made.j1] at H
              have H' := Aside0.mk H
              clear H
              go_wp2
              go_loopg [9, 10] kj6 (fun kq v9 v10 w' => ∃ (x9_3 : Bool) (x10_3 : Int), v9 = .bool x9_3 ∧ v10 = .int .i64 x10_3 ∧ Aside0 (graftbedref01_made.l1 kq a0 a1 a2 x7_1 (bt a0 x7_1) x9_3 x10_3 = some r) ∧ Aside0 (kq ≤ kj6) ∧ Drawn0 w w')
              case atStart => exact ⟨(x9_6), (0), (by first | rfl | (simp; done) | (simp [*]; done)), (by first | rfl | (simp; done) | (simp [*]; done)), H', ⟨Nat.le_refl _⟩, by repeat (first | exact Drawn0.refl _ | apply Drawn0.step)⟩
              case round =>
                clear H'
                try clear c1
                try clear c2
                try clear p2
                try clear c4
                try clear c4b0
                try clear c5
                try clear c5b0
                try clear c6
                try clear p6
                try clear q6
                try clear hx6
                try clear c8
                try clear c8b0
                try clear c9
                try clear c9b0
                try clear c10
                try clear c10b0
                try clear c11
                try clear c11b0
                try clear c12
                try clear c13
                try clear c13b0
                try clear c14
                try clear c15
                try clear c15b0
                try clear c16
                try clear c16b0
                try clear c17
                try clear c17b0
                try clear c18
                try clear c19
                try clear c19b0
                try clear c20
                try clear c21
                try clear c21b0
                try clear p2
                try clear p6
                try clear q6
                obtain ⟨x9_3, x10_3, rfl, rfl, HA, HK3, ⟨m3, rfl⟩⟩ := hrel
                cases gk with
                | zero => exact absurd HA.out (by simp [graftbedref01_made.l1])
                | succ k3 =>
                  have H := HA.out
                  clear HA
                  simp only [graftbedref01_made.l1] at H
                  by_cases c22 : x10_3 < (a2.size : Int)
                  · rw [if_pos c22] at H
                    have c22b0 : decide (x10_3 < (a2.size : Int)) = true := decide_eq_true c22
                    clear c22
                    by_cases c23 : x9_3 = true
                    · subst c23
                      have H1 : (graftbedref01_made.l1 k3 a0 a1 a2 x7_1 (bt a0 x7_1) true (wrap64 (x10_3 + 1))) = some r := by rw [if_pos rfl] at H; exact H
                      clear H
                      have H := H1
                      clear H1
                      have H' := Aside0.mk H
                      clear H
                      go_wp2
                      go_roundg k3
                      case measure => have := HK1.out; have := HJ6.out; have := HK3.out; omega
                      case rel => exact ⟨(true), (wrap64 (x10_3 + 1)), (by first | rfl | (simp; done) | (simp [*]; done)), (by first | rfl | (simp; done) | (simp [*]; done)), H', ⟨by have := HK1.out; have := HJ6.out; have := HK3.out; omega⟩, by repeat (first | exact Drawn0.refl _ | apply Drawn0.step)⟩
                    · replace c23 := Bool.eq_false_iff.mpr c23
                      subst c23
                      have H1 : (if 0 ≤ x10_3 then (graftbedref01_made.l1 k3 a0 a1 a2 x7_1 (bt a0 x7_1) ((bt a2 x10_3) == (bt a0 x7_1)) (wrap64 (x10_3 + 1))) else (none)) = some r := by rw [if_neg (show ¬ (false = true) by decide)] at H; exact H
                      clear H
                      have H := H1
                      clear H1
                      by_cases c24 : 0 ≤ x10_3
                      · rw [if_pos c24] at H
                        have c24b0 : decide (0 ≤ x10_3) = true := decide_eq_true c24
                        clear c24
                        have H' := Aside0.mk H
                        clear H
                        have p25 : 0 ≤ (x10_3 : Int) := of_decide_eq_true (by first | (with_reducible assumption) | assumption)
                        have q25 : x10_3 < (a2.size : Int) := of_decide_eq_true (by first | (with_reducible assumption) | assumption)
                        have hx25 := bt_at a2 x10_3
                        replace p25 := eq_true p25
                        replace q25 := eq_true q25
                        go_wp2
                        go_roundg k3
                        case measure => have := HK1.out; have := HJ6.out; have := HK3.out; omega
                        case rel => exact ⟨(((bt a2 x10_3) == (bt a0 x7_1))), (wrap64 (x10_3 + 1)), (by first | rfl | (simp; done) | (simp [*]; done)), (by first | rfl | (simp; done) | (simp [*]; done)), H', ⟨by have := HK1.out; have := HJ6.out; have := HK3.out; omega⟩, by repeat (first | exact Drawn0.refl _ | apply Drawn0.step)⟩
                      · rw [if_neg c24] at H
                        exact absurd H (by simp)
                  · rw [if_neg c22] at H
                    have c22b0 : decide (x10_3 < (a2.size : Int)) = false := decide_eq_false c22
                    clear c22
                    by_cases c26 : x9_3 = true
                    · subst c26
                      have H1 : (graftbedref01_made.l0 k3 a0 a1 a2 (wrap64 (x7_1 + 1))) = some r := by rw [if_pos rfl] at H; exact H
                      clear H
                      have H := H1
                      clear H1
                      have H' := Aside0.mk H
                      clear H
                      go_wp2
                      go_roundg k3
                      case measure => have := HK1.out; have := HJ6.out; have := HK3.out; omega
                      case rel => exact ⟨(wrap64 (x7_1 + 1)), (by first | rfl | (simp; done) | (simp [*]; done)), H', ⟨by have := HK1.out; have := HJ6.out; have := HK3.out; omega⟩, by repeat (first | exact Drawn0.refl _ | apply Drawn0.step)⟩
                    · replace c26 := Bool.eq_false_iff.mpr c26
                      subst c26
                      have H1 : (some false) = some r := by rw [if_neg (show ¬ (false = true) by decide)] at H; exact H
                      clear H
                      have H := H1
                      clear H1
                      obtain rfl := Option.some.inj H
                      go_wp2
                      go_ret
                      exact ⟨by first | rfl | (simp; done) | (simp [*]; done), by repeat (first | exact Drawn0.refl _ | apply Drawn0.step)⟩
        · rw [if_neg c5] at H
          exact absurd H (by simp)
      · rw [if_neg c4] at H
        have c4b0 : decide (x7_1 < (a0.size : Int)) = false := decide_eq_false c4
        clear c4
        obtain rfl := Option.some.inj H
        go_wp2
        go_ret
        exact ⟨by first | rfl | (simp; done) | (simp [*]; done), by repeat (first | exact Drawn0.refl _ | apply Drawn0.step)⟩

end Go.Proofs.Ytcfmaeonginefaa.PA
