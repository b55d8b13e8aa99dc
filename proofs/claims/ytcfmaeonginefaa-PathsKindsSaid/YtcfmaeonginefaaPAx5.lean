-- Printed by this session's own program (wip/fprint.py) over the kit's print. Lean checks it.
import Derived.Test.YtcfmaeonginefaaPAx0
import Derived.Test.YtcfmaeonginefaaPAx1
import Derived.Test.YtcfmaeonginefaaPAx2
import Derived.Test.YtcfmaeonginefaaPAx3
import Derived.Test.YtcfmaeonginefaaPAx4
import Derived.Test.YtcfmaeonginefaaFor
namespace Go.Proofs.Ytcfmaeonginefaa.PA
open Go.RowKit Go.Proofs.YtcfmaeonginefaaW.PrintWords Go.Proofs.YtcfmaeonginefaaW.PrintLast Go.Proofs.YtcfmaeonginefaaW.PrintMore
attribute [local go_sem] max2_int min2_int max_two min_two max_three min_three max_four min_four   -- for this text's walks alone
set_option linter.unusedVariables false
set_option linter.unusedSimpArgs false

open Go.Proofs.Ytcfmaeonginefaa.For
/-! ### graftbedref01_Import: function 13 -/
mutual
def graftbedref01_Import.j0 : Nat → ByteArray → Bool → Option (Int)
  | 0, _, _ => none
  | k + 1, x0, x12 => if x12 = true then (some 10) else ((graftbedref01_Elems.f k x0).bind fun t135 => (graftbedref01_Import.l0 k t135 0))
def graftbedref01_Import.l0 : Nat → List ByteArray → Int → Option (Int)
  | 0, _, _ => none
  | k + 1, x3, x4 => if x4 < (x3.length : Int) then (if 0 ≤ x4 then (if 0 < ((rdOf ByteArray.empty x3 x4).size : Int) then (if (bt (rdOf ByteArray.empty x3 x4) 0) = 46 then (some 10) else (if (bt (rdOf ByteArray.empty x3 x4) 0) = 45 then (some 10) else (if 0 ≤ (wrap64 (((rdOf ByteArray.empty x3 x4).size : Int) - 1)) then (if (wrap64 (((rdOf ByteArray.empty x3 x4).size : Int) - 1)) < ((rdOf ByteArray.empty x3 x4).size : Int) then (if (bt (rdOf ByteArray.empty x3 x4) (wrap64 (((rdOf ByteArray.empty x3 x4).size : Int) - 1))) = 46 then (some 10) else (graftbedref01_Import.l0 k x3 (wrap64 (x4 + 1)))) else (none)) else (none)))) else (none)) else (none)) else (some 0)
end
def graftbedref01_Import.f (k : Nat) (a0 : ByteArray) : Option (Int) := (graftbedref01_Valid.f k a0).bind fun t133 => (if t133 = true then ((graftbedref01_made.f k a0 true (⟨#[45, 46, 95, 126, 47, 43]⟩ : ByteArray)).bind fun t134 => (graftbedref01_Import.j0 k a0 (!t134))) else (graftbedref01_Import.j0 k a0 true))
theorem graftbedref01_Import.mono_l : ∀ k, (∀ y0 y1, LeO (graftbedref01_Import.j0 k y0 y1) (graftbedref01_Import.j0 (k + 1) y0 y1)) ∧ (∀ y0 y1, LeO (graftbedref01_Import.l0 k y0 y1) (graftbedref01_Import.l0 (k + 1) y0 y1))
  | 0 => ⟨fun _ _ r h => by simp [graftbedref01_Import.j0] at h, fun _ _ r h => by simp [graftbedref01_Import.l0] at h⟩
  | k + 1 => by
    obtain ⟨ih0, ih1⟩ := graftbedref01_Import.mono_l k
    refine ⟨?_, ?_⟩
    · intro y0 y1
      unfold graftbedref01_Import.j0
      repeat' first
      | (with_reducible exact ih0 _ _)
      | (with_reducible exact ih1 _ _)
      | (with_reducible exact graftbedref01_Elems.mono _ _)
      | (with_reducible exact graftbedref01_Valid.mono _ _)
      | (with_reducible exact graftbedref01_made.mono _ _ _ _)
      | (with_reducible exact LeO.refl _)
      | (with_reducible exact LeO.none _)
      | (with_reducible refine LeO.ite ?_ ?_)
      | (with_reducible refine LeO.bind ?_ (fun _ => ?_))
      | exact ih0 _ _
      | exact ih1 _ _
      | exact graftbedref01_Elems.mono _ _
      | exact graftbedref01_Valid.mono _ _
      | exact graftbedref01_made.mono _ _ _ _
      | exact LeO.none _
      | refine LeO.ite ?_ ?_
      | refine LeO.bind ?_ (fun _ => ?_)
    · intro y0 y1
      unfold graftbedref01_Import.l0
      repeat' first
      | (with_reducible exact ih0 _ _)
      | (with_reducible exact ih1 _ _)
      | (with_reducible exact graftbedref01_Elems.mono _ _)
      | (with_reducible exact graftbedref01_Valid.mono _ _)
      | (with_reducible exact graftbedref01_made.mono _ _ _ _)
      | (with_reducible exact LeO.refl _)
      | (with_reducible exact LeO.none _)
      | (with_reducible refine LeO.ite ?_ ?_)
      | (with_reducible refine LeO.bind ?_ (fun _ => ?_))
      | exact ih0 _ _
      | exact ih1 _ _
      | exact graftbedref01_Elems.mono _ _
      | exact graftbedref01_Valid.mono _ _
      | exact graftbedref01_made.mono _ _ _ _
      | exact LeO.none _
      | refine LeO.ite ?_ ?_
      | refine LeO.bind ?_ (fun _ => ?_)
theorem graftbedref01_Import.mono : ∀ a0 k, LeO (graftbedref01_Import.f k a0) (graftbedref01_Import.f (k + 1) a0) := by
  intro a0 k
  obtain ⟨ih0, ih1⟩ := graftbedref01_Import.mono_l k
  unfold graftbedref01_Import.f
  repeat' first
      | (with_reducible exact ih0 _ _)
      | (with_reducible exact ih1 _ _)
      | (with_reducible exact graftbedref01_Elems.mono _ _)
      | (with_reducible exact graftbedref01_Valid.mono _ _)
      | (with_reducible exact graftbedref01_made.mono _ _ _ _)
      | (with_reducible exact LeO.refl _)
      | (with_reducible exact LeO.none _)
      | (with_reducible refine LeO.ite ?_ ?_)
      | (with_reducible refine LeO.bind ?_ (fun _ => ?_))
      | exact ih0 _ _
      | exact ih1 _ _
      | exact graftbedref01_Elems.mono _ _
      | exact graftbedref01_Valid.mono _ _
      | exact graftbedref01_made.mono _ _ _ _
      | exact LeO.none _
      | refine LeO.ite ?_ ?_
      | refine LeO.bind ?_ (fun _ => ?_)
set_option maxHeartbeats 8000000 in
set_option maxRecDepth 100000 in
theorem graftbedref01_Import.calls (k : Nat) (a0 : ByteArray) (r : Int) (w : World) (h : graftbedref01_Import.f k a0 = some r) :
    Calls Try.prog 13 #[.string a0] w fun e w' => e = .returned (.int .i64 r) ∧ Below w.heap.size w w' := by
  have HB := Aside0.mk (Below.refl w.heap.size w)
  have H : ((graftbedref01_Valid.f k a0).bind fun t133 => (if t133 = true then ((graftbedref01_made.f k a0 true (⟨#[45, 46, 95, 126, 47, 43]⟩ : ByteArray)).bind fun t134 => (graftbedref01_Import.j0 k a0 (!t134))) else (graftbedref01_Import.j0 k a0 true))) = some r := h
  clear h
  have HC2 := Aside0.mk H
  clear H
  go_enter Try.func13, Try.ntmps13
  go_upto_region 1 with (fail)
  repeat (go_quiet (fail); go_upto_region 1 with (fail))
  go_cut [12] (fun v12 wc => ∃ (kq : Nat) (x12_1 : Bool), v12 = .bool x12_1 ∧ Aside0 (graftbedref01_Import.j0 kq a0 x12_1 = some r) ∧ Aside0 (kq ≤ k) ∧ Aside0 (Below w.heap.size w wc))
  case first =>
    have H := HC2.out
    clear HC2
    replace H := Option.bind_eq_some_iff.mp H
    obtain ⟨t133, A30, H⟩ := H
    replace H : (if t133 = true then ((graftbedref01_made.f k a0 true (⟨#[45, 46, 95, 126, 47, 43]⟩ : ByteArray)).bind fun t134 => (graftbedref01_Import.j0 k a0 (!t134))) else (graftbedref01_Import.j0 k a0 true)) = some r := H
    have A3 := Aside0.mk A30
    clear A30
    by_cases c4 : t133 = true
    · subst c4
      have H1 : ((graftbedref01_made.f k a0 true (⟨#[45, 46, 95, 126, 47, 43]⟩ : ByteArray)).bind fun t134 => (graftbedref01_Import.j0 k a0 (!t134))) = some r := by rw [if_pos rfl] at H; exact H
      clear H
      have H := H1
      clear H1
      replace H := Option.bind_eq_some_iff.mp H
      obtain ⟨t134, A50, H⟩ := H
      replace H : (graftbedref01_Import.j0 k a0 (!t134)) = some r := H
      have A5 := Aside0.mk A50
      clear A50
      have H' := Aside0.mk H
      clear H
      go_wp2_with (first | (go_at_call 9; (with_reducible refine (graftbedref01_Valid.calls k a0 true _ A3.out).mono ?_); rintro e w6 ⟨rfl, hb⟩; have n0_ := Aside0.mk (below_step (by repeat (first | (with_reducible first | exact HB.out | apply below_alloc | apply pw_below_drewN | apply below_drew1) | exact HB.out)) hb); clear HB; have HB := n0_; clear n0_; (try clear hb); (try clear hb2); (try clear hk); (try clear hi)) | (go_at_call 23; (with_reducible refine (graftbedref01_made.calls k a0 true (⟨#[45, 46, 95, 126, 47, 43]⟩ : ByteArray) t134 _ A5.out).mono ?_); rintro e w' ⟨rfl, ⟨nd, rfl⟩⟩; (try first | exact ⟨rfl, _, World.drewN_drewN _ _ _⟩ | exact ⟨rfl, _, Eq.trans (World.drewN_drewN _ _ _) (congrArg (World.drewN _) (Nat.add_assoc _ _ _))⟩)))
      repeat (go_quiet (first | (go_at_call 9; (with_reducible refine (graftbedref01_Valid.calls k a0 true _ A3.out).mono ?_); rintro e w6 ⟨rfl, hb⟩; have n0_ := Aside0.mk (below_step (by repeat (first | (with_reducible first | exact HB.out | apply below_alloc | apply pw_below_drewN | apply below_drew1) | exact HB.out)) hb); clear HB; have HB := n0_; clear n0_; (try clear hb); (try clear hb2); (try clear hk); (try clear hi)) | (go_at_call 23; (with_reducible refine (graftbedref01_made.calls k a0 true (⟨#[45, 46, 95, 126, 47, 43]⟩ : ByteArray) t134 _ A5.out).mono ?_); rintro e w' ⟨rfl, ⟨nd, rfl⟩⟩; (try first | exact ⟨rfl, _, World.drewN_drewN _ _ _⟩ | exact ⟨rfl, _, Eq.trans (World.drewN_drewN _ _ _) (congrArg (World.drewN _) (Nat.add_assoc _ _ _))⟩))); try go_wp2_with (first | (go_at_call 9; (with_reducible refine (graftbedref01_Valid.calls k a0 true _ A3.out).mono ?_); rintro e w6 ⟨rfl, hb⟩; have n0_ := Aside0.mk (below_step (by repeat (first | (with_reducible first | exact HB.out | apply below_alloc | apply pw_below_drewN | apply below_drew1) | exact HB.out)) hb); clear HB; have HB := n0_; clear n0_; (try clear hb); (try clear hb2); (try clear hk); (try clear hi)) | (go_at_call 23; (with_reducible refine (graftbedref01_made.calls k a0 true (⟨#[45, 46, 95, 126, 47, 43]⟩ : ByteArray) t134 _ A5.out).mono ?_); rintro e w' ⟨rfl, ⟨nd, rfl⟩⟩; (try first | exact ⟨rfl, _, World.drewN_drewN _ _ _⟩ | exact ⟨rfl, _, Eq.trans (World.drewN_drewN _ _ _) (congrArg (World.drewN _) (Nat.add_assoc _ _ _))⟩))))
      go_meet
      case rel => exact ⟨_, (!t134), (by first | rfl | (simp; done) | (simp [*]; done)), H', ⟨by first | omega | exact Nat.le_refl _⟩, ⟨by repeat (first | (with_reducible first | exact HB.out | apply below_alloc | apply pw_below_drewN | apply below_drew1) | exact HB.out)⟩⟩
    · replace c4 := Bool.eq_false_iff.mpr c4
      subst c4
      have H1 : (graftbedref01_Import.j0 k a0 true) = some r := by rw [if_neg (show ¬ (false = true) by decide)] at H; exact H
      clear H
      have H := H1
      clear H1
      have H' := Aside0.mk H
      clear H
      go_wp2_with (first | (go_at_call 9; (with_reducible refine (graftbedref01_Valid.calls k a0 false _ A3.out).mono ?_); rintro e w7 ⟨rfl, hb⟩; have n0_ := Aside0.mk (below_step (by repeat (first | (with_reducible first | exact HB.out | apply below_alloc | apply pw_below_drewN | apply below_drew1) | exact HB.out)) hb); clear HB; have HB := n0_; clear n0_; (try clear hb); (try clear hb2); (try clear hk); (try clear hi)))
      repeat (go_quiet (first | (go_at_call 9; (with_reducible refine (graftbedref01_Valid.calls k a0 false _ A3.out).mono ?_); rintro e w7 ⟨rfl, hb⟩; have n0_ := Aside0.mk (below_step (by repeat (first | (with_reducible first | exact HB.out | apply below_alloc | apply pw_below_drewN | apply below_drew1) | exact HB.out)) hb); clear HB; have HB := n0_; clear n0_; (try clear hb); (try clear hb2); (try clear hk); (try clear hi))); try go_wp2_with (first | (go_at_call 9; (with_reducible refine (graftbedref01_Valid.calls k a0 false _ A3.out).mono ?_); rintro e w7 ⟨rfl, hb⟩; have n0_ := Aside0.mk (below_step (by repeat (first | (with_reducible first | exact HB.out | apply below_alloc | apply pw_below_drewN | apply below_drew1) | exact HB.out)) hb); clear HB; have HB := n0_; clear n0_; (try clear hb); (try clear hb2); (try clear hk); (try clear hi))))
      go_meet
      case rel => exact ⟨_, (true), (by first | rfl | (simp; done) | (simp [*]; done)), H', ⟨by first | omega | exact Nat.le_refl _⟩, ⟨by repeat (first | (with_reducible first | exact HB.out | apply below_alloc | apply pw_below_drewN | apply below_drew1) | exact HB.out)⟩⟩
  case rest =>
    clear HC2
    try clear c1
    try clear p2
    try clear c4
    obtain ⟨kq, x12_1, rfl, HA, HJ1, HB⟩ := hcut
    cases kq with
    | zero => exact absurd HA.out (by simp [graftbedref01_Import.j0])
    | succ kj1 =>
      have H := HA.out
      clear HA
      simp only [graftbedref01_Import.j0] at H
      by_cases c8 : x12_1 = true
      · subst c8
        have H1 : (some 10) = some r := by rw [if_pos rfl] at H; exact H
        clear H
        have H := H1
        clear H1
        obtain rfl := Option.some.inj H
        go_wp2
        repeat (go_quiet (fail); try go_wp2)
        go_ret
        exact ⟨by first | rfl | (simp [errW_none, errW_some] <;> rfl) | (simp [*, errW_none, errW_some] <;> rfl), by repeat (first | (with_reducible first | exact HB.out | apply below_alloc | apply pw_below_drewN | apply below_drew1) | exact HB.out)⟩
      · replace c8 := Bool.eq_false_iff.mpr c8
        subst c8
        have H1 : ((graftbedref01_Elems.f kj1 a0).bind fun t135 => (graftbedref01_Import.l0 kj1 t135 0)) = some r := by rw [if_neg (show ¬ (false = true) by decide)] at H; exact H
        clear H
        have H := H1
        clear H1
        replace H := Option.bind_eq_some_iff.mp H
        obtain ⟨t135, A90, H⟩ := H
        replace H : (graftbedref01_Import.l0 kj1 t135 0) = some r := H
        have A9 := Aside0.mk A90
        clear A90
        have H' := Aside0.mk H
        clear H
        go_wp2_with (first | (go_at_call 7; (with_reducible refine (graftbedref01_Elems.calls kj1 a0 t135 _ A9.out).mono ?_); rintro e w10 ⟨v136, rfl, ho0, hb⟩; have n0_ := Aside0.mk (Kd.R_lower ho0 (below_size (by repeat (first | (with_reducible first | exact HB.out | apply below_alloc | apply pw_below_drewN | apply below_drew1) | exact HB.out)))); have n1_ := Aside0.mk (below_step (by repeat (first | (with_reducible first | exact HB.out | apply below_alloc | apply pw_below_drewN | apply below_drew1) | exact HB.out)) hb); clear HB; have HO137 := n0_; have HB := n1_; clear n0_ n1_; (try clear hb); (try clear hb2); (try clear hk); (try clear hi); (try clear ho0)))
        repeat (go_quiet (first | (go_at_call 7; (with_reducible refine (graftbedref01_Elems.calls kj1 a0 t135 _ A9.out).mono ?_); rintro e w10 ⟨v136, rfl, ho0, hb⟩; have n0_ := Aside0.mk (Kd.R_lower ho0 (below_size (by repeat (first | (with_reducible first | exact HB.out | apply below_alloc | apply pw_below_drewN | apply below_drew1) | exact HB.out)))); have n1_ := Aside0.mk (below_step (by repeat (first | (with_reducible first | exact HB.out | apply below_alloc | apply pw_below_drewN | apply below_drew1) | exact HB.out)) hb); clear HB; have HO137 := n0_; have HB := n1_; clear n0_ n1_; (try clear hb); (try clear hb2); (try clear hk); (try clear hi); (try clear ho0))); try go_wp2_with (first | (go_at_call 7; (with_reducible refine (graftbedref01_Elems.calls kj1 a0 t135 _ A9.out).mono ?_); rintro e w10 ⟨v136, rfl, ho0, hb⟩; have n0_ := Aside0.mk (Kd.R_lower ho0 (below_size (by repeat (first | (with_reducible first | exact HB.out | apply below_alloc | apply pw_below_drewN | apply below_drew1) | exact HB.out)))); have n1_ := Aside0.mk (below_step (by repeat (first | (with_reducible first | exact HB.out | apply below_alloc | apply pw_below_drewN | apply below_drew1) | exact HB.out)) hb); clear HB; have HO137 := n0_; have HB := n1_; clear n0_ n1_; (try clear hb); (try clear hb2); (try clear hk); (try clear hi); (try clear ho0))))
        go_loopg [4] kj1 (fun kq v4 w' => ∃ (x4_2 : Int), v4 = .int .i64 x4_2 ∧ Aside0 (graftbedref01_Import.l0 kq t135 x4_2 = some r) ∧ Aside0 (kq ≤ kj1) ∧ Aside0 (Kd.R Kd.string 9 w' w.heap.size (fun _ => True) v136 t135) ∧ Aside0 (Below w.heap.size w w'))
        case atStart => exact ⟨(0), (by first | rfl | (simp; done) | (simp [*]; done)), H', ⟨Nat.le_refl _⟩, ⟨by (with_reducible repeat (first | apply Kd.R_alloc | apply Kd.R_drewN | apply Kd.R_drew)); exact HO137.out⟩, ⟨by repeat (first | (with_reducible first | exact HB.out | apply below_alloc | apply pw_below_drewN | apply below_drew1) | exact HB.out)⟩⟩
        case round =>
          clear H'
          try clear c1
          try clear p2
          try clear c4
          try clear c8
          try clear p2
          obtain ⟨x4_2, rfl, HA, HK2, HO_3, HB⟩ := hrel
          cases gk with
          | zero => exact absurd HA.out (by simp [graftbedref01_Import.l0])
          | succ k2 =>
            have H := HA.out
            clear HA
            simp only [graftbedref01_Import.l0] at H
            by_cases c11 : x4_2 < (t135.length : Int)
            · rw [if_pos c11] at H
              have c11b0 : decide (x4_2 < (t135.length : Int)) = true := decide_eq_true c11
              clear c11
              by_cases c12 : 0 ≤ x4_2
              · rw [if_pos c12] at H
                have c12b0 : decide (0 ≤ x4_2) = true := decide_eq_true c12
                clear c12
                by_cases c13 : 0 < ((rdOf ByteArray.empty t135 x4_2).size : Int)
                · rw [if_pos c13] at H
                  have c13b0 : decide (0 < ((rdOf ByteArray.empty t135 x4_2).size : Int)) = true := decide_eq_true c13
                  have c13b1 : decide (0 < (rdOf ByteArray.empty t135 x4_2).size) = true := decide_eq_true (by omega)
                  clear c13
                  by_cases c15 : (bt (rdOf ByteArray.empty t135 x4_2) 0) = 46
                  · rw [if_pos c15] at H
                    have c15b0 : ((bt (rdOf ByteArray.empty t135 x4_2) 0) == 46) = true := beq_iff_eq.mpr c15
                    have c15b1 : ((bt (rdOf ByteArray.empty t135 x4_2) 0) != 46) = false := bne_eq_false_iff_eq.mpr c15
                    clear c15
                    obtain rfl := Option.some.inj H
                    obtain ⟨Ao16, co16, eo16⟩ := Kd.R_slice HO_3.out
                    subst eo16
                    have p138 : 0 ≤ (x4_2 : Int) := of_decide_eq_true (by first | (with_reducible assumption) | assumption)
                    have q138 : x4_2 < (t135.length : Int) := of_decide_eq_true (by first | (with_reducible assumption) | assumption)
                    obtain ⟨ad138, e138, hx138_0⟩ := Kd.at_string (Kd.R_reads' HO_3.out).2.2 x4_2 p138 q138
                    cases e138
                    replace p138 := eq_true p138
                    replace q138 := eq_true q138
                    have p14 : 0 ≤ (0 : Int) := (by omega)
                    have q14 : 0 < (rdOf ByteArray.empty t135 x4_2).size := (by have : (0 : Int) < ((rdOf ByteArray.empty t135 x4_2).size : Int) := of_decide_eq_true (by first | (with_reducible assumption) | assumption); omega)
                    have hx14 : ∀ h : 0 < (rdOf ByteArray.empty t135 x4_2).size, (((rdOf ByteArray.empty t135 x4_2)[0]'h).toNat : Int) = bt (rdOf ByteArray.empty t135 x4_2) 0 := bt_at (rdOf ByteArray.empty t135 x4_2) 0
                    clear p14
                    have qi14 : (0 < ((rdOf ByteArray.empty t135 x4_2).size : Int)) = True := eq_true (of_decide_eq_true (by first | (with_reducible assumption) | assumption))
                    replace q14 := eq_true q14
                    go_wp2
                    repeat (go_quiet (fail); try go_wp2)
                    go_ret
                    exact ⟨by first | rfl | (simp [errW_none, errW_some] <;> rfl) | (simp [*, errW_none, errW_some] <;> rfl), by repeat (first | (with_reducible first | exact HB.out | apply below_alloc | apply pw_below_drewN | apply below_drew1) | exact HB.out)⟩
                  · rw [if_neg c15] at H
                    have c15b0 : ((bt (rdOf ByteArray.empty t135 x4_2) 0) == 46) = false := beq_eq_false_iff_ne.mpr c15
                    have c15b1 : ((bt (rdOf ByteArray.empty t135 x4_2) 0) != 46) = true := bne_iff_ne.mpr c15
                    by_cases c18 : (bt (rdOf ByteArray.empty t135 x4_2) 0) = 45
                    · rw [if_pos c18] at H
                      have c18b0 : ((bt (rdOf ByteArray.empty t135 x4_2) 0) == 45) = true := beq_iff_eq.mpr c18
                      have c18b1 : ((bt (rdOf ByteArray.empty t135 x4_2) 0) != 45) = false := bne_eq_false_iff_eq.mpr c18
                      clear c18
                      obtain rfl := Option.some.inj H
                      obtain ⟨Ao19, co19, eo19⟩ := Kd.R_slice HO_3.out
                      subst eo19
                      have p138 : 0 ≤ (x4_2 : Int) := of_decide_eq_true (by first | (with_reducible assumption) | assumption)
                      have q138 : x4_2 < (t135.length : Int) := of_decide_eq_true (by first | (with_reducible assumption) | assumption)
                      obtain ⟨ad138, e138, hx138_0⟩ := Kd.at_string (Kd.R_reads' HO_3.out).2.2 x4_2 p138 q138
                      cases e138
                      replace p138 := eq_true p138
                      replace q138 := eq_true q138
                      have p14 : 0 ≤ (0 : Int) := (by omega)
                      have q14 : 0 < (rdOf ByteArray.empty t135 x4_2).size := (by have : (0 : Int) < ((rdOf ByteArray.empty t135 x4_2).size : Int) := of_decide_eq_true (by first | (with_reducible assumption) | assumption); omega)
                      have hx14 : ∀ h : 0 < (rdOf ByteArray.empty t135 x4_2).size, (((rdOf ByteArray.empty t135 x4_2)[0]'h).toNat : Int) = bt (rdOf ByteArray.empty t135 x4_2) 0 := bt_at (rdOf ByteArray.empty t135 x4_2) 0
                      clear p14
                      have qi14 : (0 < ((rdOf ByteArray.empty t135 x4_2).size : Int)) = True := eq_true (of_decide_eq_true (by first | (with_reducible assumption) | assumption))
                      replace q14 := eq_true q14
                      have p139 : 0 ≤ (x4_2 : Int) := of_decide_eq_true (by first | (with_reducible assumption) | assumption)
                      have q139 : x4_2 < (t135.length : Int) := of_decide_eq_true (by first | (with_reducible assumption) | assumption)
                      obtain ⟨ad139, e139, hx139_0⟩ := Kd.at_string (Kd.R_reads' HO_3.out).2.2 x4_2 p139 q139
                      obtain rfl : ad138 = ad139 := (by injection e139)
                      replace p139 := eq_true p139
                      replace q139 := eq_true q139
                      have p17 : 0 ≤ (0 : Int) := (by omega)
                      have q17 : 0 < (rdOf ByteArray.empty t135 x4_2).size := (by have : (0 : Int) < ((rdOf ByteArray.empty t135 x4_2).size : Int) := of_decide_eq_true (by first | (with_reducible assumption) | assumption); omega)
                      have hx17 : ∀ h : 0 < (rdOf ByteArray.empty t135 x4_2).size, (((rdOf ByteArray.empty t135 x4_2)[0]'h).toNat : Int) = bt (rdOf ByteArray.empty t135 x4_2) 0 := bt_at (rdOf ByteArray.empty t135 x4_2) 0
                      clear p17
                      have qi17 : (0 < ((rdOf ByteArray.empty t135 x4_2).size : Int)) = True := eq_true (of_decide_eq_true (by first | (with_reducible assumption) | assumption))
                      replace q17 := eq_true q17
                      go_wp2
                      repeat (go_quiet (fail); try go_wp2)
                      go_ret
                      exact ⟨by first | rfl | (simp [errW_none, errW_some] <;> rfl) | (simp [*, errW_none, errW_some] <;> rfl), by repeat (first | (with_reducible first | exact HB.out | apply below_alloc | apply pw_below_drewN | apply below_drew1) | exact HB.out)⟩
                    · rw [if_neg c18] at H
                      have c18b0 : ((bt (rdOf ByteArray.empty t135 x4_2) 0) == 45) = false := beq_eq_false_iff_ne.mpr c18
                      have c18b1 : ((bt (rdOf ByteArray.empty t135 x4_2) 0) != 45) = true := bne_iff_ne.mpr c18
                      obtain ⟨ji20, hji20⟩ : ∃ j_ : Int, (wrap64 (((rdOf ByteArray.empty t135 x4_2).size : Int) - 1)) = j_ := ⟨_, rfl⟩
                      replace H : (if 0 ≤ (ji20) then (if (ji20) < ((rdOf ByteArray.empty t135 x4_2).size : Int) then (if (bt (rdOf ByteArray.empty t135 x4_2) (ji20)) = 46 then (some 10) else (graftbedref01_Import.l0 k2 t135 (wrap64 (x4_2 + 1)))) else (none)) else (none)) = some r := by first | (rw [hji20] at H; exact H) | (simp only [hji20] at H ⊢; exact H)
                      have hji20w : (IntKind.i64.wrap (((rdOf ByteArray.empty t135 x4_2).size : Int) - 1)) = ji20 := (i64_w _).trans hji20
                      by_cases c21 : 0 ≤ (ji20)
                      · rw [if_pos c21] at H
                        have c21b0 : decide (0 ≤ (ji20)) = true := decide_eq_true c21
                        clear c21
                        by_cases c22 : (ji20) < ((rdOf ByteArray.empty t135 x4_2).size : Int)
                        · rw [if_pos c22] at H
                          have c22b0 : decide ((ji20) < ((rdOf ByteArray.empty t135 x4_2).size : Int)) = true := decide_eq_true c22
                          clear c22
                          by_cases c24 : (bt (rdOf ByteArray.empty t135 x4_2) (ji20)) = 46
                          · rw [if_pos c24] at H
                            have c24b0 : ((bt (rdOf ByteArray.empty t135 x4_2) (ji20)) == 46) = true := beq_iff_eq.mpr c24
                            have c24b1 : ((bt (rdOf ByteArray.empty t135 x4_2) (ji20)) != 46) = false := bne_eq_false_iff_eq.mpr c24
                            clear c24
                            obtain rfl := Option.some.inj H
                            obtain ⟨Ao25, co25, eo25⟩ := Kd.R_slice HO_3.out
                            subst eo25
                            have p138 : 0 ≤ (x4_2 : Int) := of_decide_eq_true (by first | (with_reducible assumption) | assumption)
                            have q138 : x4_2 < (t135.length : Int) := of_decide_eq_true (by first | (with_reducible assumption) | assumption)
                            obtain ⟨ad138, e138, hx138_0⟩ := Kd.at_string (Kd.R_reads' HO_3.out).2.2 x4_2 p138 q138
                            cases e138
                            replace p138 := eq_true p138
                            replace q138 := eq_true q138
                            have p14 : 0 ≤ (0 : Int) := (by omega)
                            have q14 : 0 < (rdOf ByteArray.empty t135 x4_2).size := (by have : (0 : Int) < ((rdOf ByteArray.empty t135 x4_2).size : Int) := of_decide_eq_true (by first | (with_reducible assumption) | assumption); omega)
                            have hx14 : ∀ h : 0 < (rdOf ByteArray.empty t135 x4_2).size, (((rdOf ByteArray.empty t135 x4_2)[0]'h).toNat : Int) = bt (rdOf ByteArray.empty t135 x4_2) 0 := bt_at (rdOf ByteArray.empty t135 x4_2) 0
                            clear p14
                            have qi14 : (0 < ((rdOf ByteArray.empty t135 x4_2).size : Int)) = True := eq_true (of_decide_eq_true (by first | (with_reducible assumption) | assumption))
                            replace q14 := eq_true q14
                            have p139 : 0 ≤ (x4_2 : Int) := of_decide_eq_true (by first | (with_reducible assumption) | assumption)
                            have q139 : x4_2 < (t135.length : Int) := of_decide_eq_true (by first | (with_reducible assumption) | assumption)
                            obtain ⟨ad139, e139, hx139_0⟩ := Kd.at_string (Kd.R_reads' HO_3.out).2.2 x4_2 p139 q139
                            obtain rfl : ad138 = ad139 := (by injection e139)
                            replace p139 := eq_true p139
                            replace q139 := eq_true q139
                            have p17 : 0 ≤ (0 : Int) := (by omega)
                            have q17 : 0 < (rdOf ByteArray.empty t135 x4_2).size := (by have : (0 : Int) < ((rdOf ByteArray.empty t135 x4_2).size : Int) := of_decide_eq_true (by first | (with_reducible assumption) | assumption); omega)
                            have hx17 : ∀ h : 0 < (rdOf ByteArray.empty t135 x4_2).size, (((rdOf ByteArray.empty t135 x4_2)[0]'h).toNat : Int) = bt (rdOf ByteArray.empty t135 x4_2) 0 := bt_at (rdOf ByteArray.empty t135 x4_2) 0
                            clear p17
                            have qi17 : (0 < ((rdOf ByteArray.empty t135 x4_2).size : Int)) = True := eq_true (of_decide_eq_true (by first | (with_reducible assumption) | assumption))
                            replace q17 := eq_true q17
                            have p140 : 0 ≤ (x4_2 : Int) := of_decide_eq_true (by first | (with_reducible assumption) | assumption)
                            have q140 : x4_2 < (t135.length : Int) := of_decide_eq_true (by first | (with_reducible assumption) | assumption)
                            obtain ⟨ad140, e140, hx140_0⟩ := Kd.at_string (Kd.R_reads' HO_3.out).2.2 x4_2 p140 q140
                            obtain rfl : ad138 = ad140 := (by injection e140)
                            replace p140 := eq_true p140
                            replace q140 := eq_true q140
                            have p141 : 0 ≤ (x4_2 : Int) := of_decide_eq_true (by first | (with_reducible assumption) | assumption)
                            have q141 : x4_2 < (t135.length : Int) := of_decide_eq_true (by first | (with_reducible assumption) | assumption)
                            obtain ⟨ad141, e141, hx141_0⟩ := Kd.at_string (Kd.R_reads' HO_3.out).2.2 x4_2 p141 q141
                            obtain rfl : ad138 = ad141 := (by injection e141)
                            replace p141 := eq_true p141
                            replace q141 := eq_true q141
                            have p23 : 0 ≤ ((ji20) : Int) := of_decide_eq_true (by first | (with_reducible assumption) | assumption)
                            have q23 : (ji20) < ((rdOf ByteArray.empty t135 x4_2).size : Int) := of_decide_eq_true (by first | (with_reducible assumption) | assumption)
                            have hx23 := bt_at (rdOf ByteArray.empty t135 x4_2) (ji20)
                            replace p23 := eq_true p23
                            replace q23 := eq_true q23
                            go_wp2
                            repeat (go_quiet (fail); try go_wp2)
                            go_ret
                            exact ⟨by first | rfl | (simp [errW_none, errW_some] <;> rfl) | (simp only [← hji20]; first | rfl | (simp [errW_none, errW_some] <;> rfl)) | (simp [*, errW_none, errW_some] <;> rfl), by repeat (first | (with_reducible first | exact HB.out | apply below_alloc | apply pw_below_drewN | apply below_drew1) | exact HB.out)⟩
                          · rw [if_neg c24] at H
                            have c24b0 : ((bt (rdOf ByteArray.empty t135 x4_2) (ji20)) == 46) = false := beq_eq_false_iff_ne.mpr c24
                            have c24b1 : ((bt (rdOf ByteArray.empty t135 x4_2) (ji20)) != 46) = true := bne_iff_ne.mpr c24
                            have H' := Aside0.mk H
                            clear H
                            obtain ⟨Ao26, co26, eo26⟩ := Kd.R_slice HO_3.out
                            subst eo26
                            have p138 : 0 ≤ (x4_2 : Int) := of_decide_eq_true (by first | (with_reducible assumption) | assumption)
                            have q138 : x4_2 < (t135.length : Int) := of_decide_eq_true (by first | (with_reducible assumption) | assumption)
                            obtain ⟨ad138, e138, hx138_0⟩ := Kd.at_string (Kd.R_reads' HO_3.out).2.2 x4_2 p138 q138
                            cases e138
                            replace p138 := eq_true p138
                            replace q138 := eq_true q138
                            have p14 : 0 ≤ (0 : Int) := (by omega)
                            have q14 : 0 < (rdOf ByteArray.empty t135 x4_2).size := (by have : (0 : Int) < ((rdOf ByteArray.empty t135 x4_2).size : Int) := of_decide_eq_true (by first | (with_reducible assumption) | assumption); omega)
                            have hx14 : ∀ h : 0 < (rdOf ByteArray.empty t135 x4_2).size, (((rdOf ByteArray.empty t135 x4_2)[0]'h).toNat : Int) = bt (rdOf ByteArray.empty t135 x4_2) 0 := bt_at (rdOf ByteArray.empty t135 x4_2) 0
                            clear p14
                            have qi14 : (0 < ((rdOf ByteArray.empty t135 x4_2).size : Int)) = True := eq_true (of_decide_eq_true (by first | (with_reducible assumption) | assumption))
                            replace q14 := eq_true q14
                            have p139 : 0 ≤ (x4_2 : Int) := of_decide_eq_true (by first | (with_reducible assumption) | assumption)
                            have q139 : x4_2 < (t135.length : Int) := of_decide_eq_true (by first | (with_reducible assumption) | assumption)
                            obtain ⟨ad139, e139, hx139_0⟩ := Kd.at_string (Kd.R_reads' HO_3.out).2.2 x4_2 p139 q139
                            obtain rfl : ad138 = ad139 := (by injection e139)
                            replace p139 := eq_true p139
                            replace q139 := eq_true q139
                            have p17 : 0 ≤ (0 : Int) := (by omega)
                            have q17 : 0 < (rdOf ByteArray.empty t135 x4_2).size := (by have : (0 : Int) < ((rdOf ByteArray.empty t135 x4_2).size : Int) := of_decide_eq_true (by first | (with_reducible assumption) | assumption); omega)
                            have hx17 : ∀ h : 0 < (rdOf ByteArray.empty t135 x4_2).size, (((rdOf ByteArray.empty t135 x4_2)[0]'h).toNat : Int) = bt (rdOf ByteArray.empty t135 x4_2) 0 := bt_at (rdOf ByteArray.empty t135 x4_2) 0
                            clear p17
                            have qi17 : (0 < ((rdOf ByteArray.empty t135 x4_2).size : Int)) = True := eq_true (of_decide_eq_true (by first | (with_reducible assumption) | assumption))
                            replace q17 := eq_true q17
                            have p140 : 0 ≤ (x4_2 : Int) := of_decide_eq_true (by first | (with_reducible assumption) | assumption)
                            have q140 : x4_2 < (t135.length : Int) := of_decide_eq_true (by first | (with_reducible assumption) | assumption)
                            obtain ⟨ad140, e140, hx140_0⟩ := Kd.at_string (Kd.R_reads' HO_3.out).2.2 x4_2 p140 q140
                            obtain rfl : ad138 = ad140 := (by injection e140)
                            replace p140 := eq_true p140
                            replace q140 := eq_true q140
                            have p141 : 0 ≤ (x4_2 : Int) := of_decide_eq_true (by first | (with_reducible assumption) | assumption)
                            have q141 : x4_2 < (t135.length : Int) := of_decide_eq_true (by first | (with_reducible assumption) | assumption)
                            obtain ⟨ad141, e141, hx141_0⟩ := Kd.at_string (Kd.R_reads' HO_3.out).2.2 x4_2 p141 q141
                            obtain rfl : ad138 = ad141 := (by injection e141)
                            replace p141 := eq_true p141
                            replace q141 := eq_true q141
                            have p23 : 0 ≤ ((ji20) : Int) := of_decide_eq_true (by first | (with_reducible assumption) | assumption)
                            have q23 : (ji20) < ((rdOf ByteArray.empty t135 x4_2).size : Int) := of_decide_eq_true (by first | (with_reducible assumption) | assumption)
                            have hx23 := bt_at (rdOf ByteArray.empty t135 x4_2) (ji20)
                            replace p23 := eq_true p23
                            replace q23 := eq_true q23
                            go_wp2
                            repeat (go_quiet (fail); try go_wp2)
                            go_roundg k2
                            case measure => have := HJ1.out; have := HK2.out; omega
                            case rel => exact ⟨(wrap64 (x4_2 + 1)), (by first | rfl | (simp; done) | (simp [*]; done)), H', ⟨by have := HJ1.out; have := HK2.out; omega⟩, ⟨by (with_reducible repeat (first | apply Kd.R_alloc | apply Kd.R_drewN | apply Kd.R_drew)); exact HO_3.out⟩, ⟨by repeat (first | (with_reducible first | exact HB.out | apply below_alloc | apply pw_below_drewN | apply below_drew1) | exact HB.out)⟩⟩
                        · rw [if_neg c22] at H
                          exact absurd H (by simp)
                      · rw [if_neg c21] at H
                        exact absurd H (by simp)
                · rw [if_neg c13] at H
                  exact absurd H (by simp)
              · rw [if_neg c12] at H
                exact absurd H (by simp)
            · rw [if_neg c11] at H
              have c11b0 : decide (x4_2 < (t135.length : Int)) = false := decide_eq_false c11
              clear c11
              obtain rfl := Option.some.inj H
              obtain ⟨Ao27, co27, eo27⟩ := Kd.R_slice HO_3.out
              subst eo27
              go_wp2
              repeat (go_quiet (fail); try go_wp2)
              go_ret
              exact ⟨by first | rfl | (simp [errW_none, errW_some] <;> rfl) | (simp [*, errW_none, errW_some] <;> rfl), by repeat (first | (with_reducible first | exact HB.out | apply below_alloc | apply pw_below_drewN | apply below_drew1) | exact HB.out)⟩

/-! ### graftbedlaw01_PathsTells: function 3 -/
def graftbedlaw01_PathsTells.f (k : Nat) (a0 : ByteArray) : Option (Bool) := if (a0.size : Int) > 2048 then (some true) else ((paths_Elems.f a0).bind fun t142 => ((graftbedref01_Elems.f k a0).bind fun t145 => ((graftbedlaw01_same.f k t142 t145).bind fun t148 => (if t148 = true then ((paths_Valid.f a0).bind fun t149 => ((graftbedref01_Valid.f k a0).bind fun t150 => (if (t149 == t150) = true then ((paths_Module.f a0).bind fun t151 => ((graftbedref01_Module.f k a0).bind fun t152 => (if t151 = t152 then ((paths_Import.f a0).bind fun t153 => ((graftbedref01_Import.f k a0).bind fun t154 => (if t153 = t154 then ((paths_Valid.f (⟨#[97]⟩ : ByteArray)).bind fun t155 => (some t155)) else (some false)))) else (some false)))) else (some false)))) else (some false)))))
theorem graftbedlaw01_PathsTells.mono : ∀ a0 k, LeO (graftbedlaw01_PathsTells.f k a0) (graftbedlaw01_PathsTells.f (k + 1) a0) := by
  intro a0 k
  unfold graftbedlaw01_PathsTells.f
  repeat' first
      | (with_reducible exact graftbedlaw01_same.mono _ _ _)
      | (with_reducible exact graftbedref01_Elems.mono _ _)
      | (with_reducible exact graftbedref01_Import.mono _ _)
      | (with_reducible exact graftbedref01_Module.mono _ _)
      | (with_reducible exact graftbedref01_Valid.mono _ _)
      | (with_reducible exact LeO.refl _)
      | (with_reducible exact LeO.none _)
      | (with_reducible refine LeO.ite ?_ ?_)
      | (with_reducible refine LeO.bind ?_ (fun _ => ?_))
      | exact graftbedlaw01_same.mono _ _ _
      | exact graftbedref01_Elems.mono _ _
      | exact graftbedref01_Import.mono _ _
      | exact graftbedref01_Module.mono _ _
      | exact graftbedref01_Valid.mono _ _
      | exact LeO.none _
      | refine LeO.ite ?_ ?_
      | refine LeO.bind ?_ (fun _ => ?_)
set_option maxHeartbeats 8000000 in
set_option maxRecDepth 100000 in
theorem graftbedlaw01_PathsTells.calls (k : Nat) (a0 : ByteArray) (r : Bool) (w : World) (h : graftbedlaw01_PathsTells.f k a0 = some r) :
    Calls Try.prog 3 #[.string a0] w fun e w' => e = .returned (.bool r) ∧ Below w.heap.size w w' := by
  have HB := Aside0.mk (Below.refl w.heap.size w)
  have H : (if (a0.size : Int) > 2048 then (some true) else ((paths_Elems.f a0).bind fun t142 => ((graftbedref01_Elems.f k a0).bind fun t145 => ((graftbedlaw01_same.f k t142 t145).bind fun t148 => (if t148 = true then ((paths_Valid.f a0).bind fun t149 => ((graftbedref01_Valid.f k a0).bind fun t150 => (if (t149 == t150) = true then ((paths_Module.f a0).bind fun t151 => ((graftbedref01_Module.f k a0).bind fun t152 => (if t151 = t152 then ((paths_Import.f a0).bind fun t153 => ((graftbedref01_Import.f k a0).bind fun t154 => (if t153 = t154 then ((paths_Valid.f (⟨#[97]⟩ : ByteArray)).bind fun t155 => (some t155)) else (some false)))) else (some false)))) else (some false)))) else (some false)))))) = some r := h
  clear h
  by_cases c2 : (a0.size : Int) > 2048
  · rw [if_pos c2] at H
    have c2b0 : decide (2048 < (a0.size : Int)) = true := decide_eq_true c2
    have c2b1 : decide (2048 < a0.size) = true := decide_eq_true (by omega)
    clear c2
    obtain rfl := Option.some.inj H
    go_enter Try.func3, Try.ntmps3
    go_wp2
    go_ret
    exact ⟨by first | rfl | (simp [errW_none, errW_some] <;> rfl) | (simp [*, errW_none, errW_some] <;> rfl), by repeat (first | (with_reducible first | exact HB.out | apply below_alloc | apply pw_below_drewN | apply below_drew1) | exact HB.out)⟩
  · rw [if_neg c2] at H
    have c2b0 : decide (2048 < (a0.size : Int)) = false := decide_eq_false c2
    have c2b1 : decide (2048 < a0.size) = false := decide_eq_false (by omega)
    clear c2
    replace H := Option.bind_eq_some_iff.mp H
    obtain ⟨t142, A30, H⟩ := H
    replace H : ((graftbedref01_Elems.f k a0).bind fun t145 => ((graftbedlaw01_same.f k t142 t145).bind fun t148 => (if t148 = true then ((paths_Valid.f a0).bind fun t149 => ((graftbedref01_Valid.f k a0).bind fun t150 => (if (t149 == t150) = true then ((paths_Module.f a0).bind fun t151 => ((graftbedref01_Module.f k a0).bind fun t152 => (if t151 = t152 then ((paths_Import.f a0).bind fun t153 => ((graftbedref01_Import.f k a0).bind fun t154 => (if t153 = t154 then ((paths_Valid.f (⟨#[97]⟩ : ByteArray)).bind fun t155 => (some t155)) else (some false)))) else (some false)))) else (some false)))) else (some false)))) = some r := H
    have A3 := Aside0.mk A30
    clear A30
    replace H := Option.bind_eq_some_iff.mp H
    obtain ⟨t145, A40, H⟩ := H
    replace H : ((graftbedlaw01_same.f k t142 t145).bind fun t148 => (if t148 = true then ((paths_Valid.f a0).bind fun t149 => ((graftbedref01_Valid.f k a0).bind fun t150 => (if (t149 == t150) = true then ((paths_Module.f a0).bind fun t151 => ((graftbedref01_Module.f k a0).bind fun t152 => (if t151 = t152 then ((paths_Import.f a0).bind fun t153 => ((graftbedref01_Import.f k a0).bind fun t154 => (if t153 = t154 then ((paths_Valid.f (⟨#[97]⟩ : ByteArray)).bind fun t155 => (some t155)) else (some false)))) else (some false)))) else (some false)))) else (some false))) = some r := H
    have A4 := Aside0.mk A40
    clear A40
    replace H := Option.bind_eq_some_iff.mp H
    obtain ⟨t148, A50, H⟩ := H
    replace H : (if t148 = true then ((paths_Valid.f a0).bind fun t149 => ((graftbedref01_Valid.f k a0).bind fun t150 => (if (t149 == t150) = true then ((paths_Module.f a0).bind fun t151 => ((graftbedref01_Module.f k a0).bind fun t152 => (if t151 = t152 then ((paths_Import.f a0).bind fun t153 => ((graftbedref01_Import.f k a0).bind fun t154 => (if t153 = t154 then ((paths_Valid.f (⟨#[97]⟩ : ByteArray)).bind fun t155 => (some t155)) else (some false)))) else (some false)))) else (some false)))) else (some false)) = some r := H
    have A5 := Aside0.mk A50
    clear A50
    by_cases c6 : t148 = true
    · subst c6
      have H1 : ((paths_Valid.f a0).bind fun t149 => ((graftbedref01_Valid.f k a0).bind fun t150 => (if (t149 == t150) = true then ((paths_Module.f a0).bind fun t151 => ((graftbedref01_Module.f k a0).bind fun t152 => (if t151 = t152 then ((paths_Import.f a0).bind fun t153 => ((graftbedref01_Import.f k a0).bind fun t154 => (if t153 = t154 then ((paths_Valid.f (⟨#[97]⟩ : ByteArray)).bind fun t155 => (some t155)) else (some false)))) else (some false)))) else (some false)))) = some r := by rw [if_pos rfl] at H; exact H
      clear H
      have H := H1
      clear H1
      replace H := Option.bind_eq_some_iff.mp H
      obtain ⟨t149, A70, H⟩ := H
      replace H : ((graftbedref01_Valid.f k a0).bind fun t150 => (if (t149 == t150) = true then ((paths_Module.f a0).bind fun t151 => ((graftbedref01_Module.f k a0).bind fun t152 => (if t151 = t152 then ((paths_Import.f a0).bind fun t153 => ((graftbedref01_Import.f k a0).bind fun t154 => (if t153 = t154 then ((paths_Valid.f (⟨#[97]⟩ : ByteArray)).bind fun t155 => (some t155)) else (some false)))) else (some false)))) else (some false))) = some r := H
      have A7 := Aside0.mk A70
      clear A70
      replace H := Option.bind_eq_some_iff.mp H
      obtain ⟨t150, A80, H⟩ := H
      replace H : (if (t149 == t150) = true then ((paths_Module.f a0).bind fun t151 => ((graftbedref01_Module.f k a0).bind fun t152 => (if t151 = t152 then ((paths_Import.f a0).bind fun t153 => ((graftbedref01_Import.f k a0).bind fun t154 => (if t153 = t154 then ((paths_Valid.f (⟨#[97]⟩ : ByteArray)).bind fun t155 => (some t155)) else (some false)))) else (some false)))) else (some false)) = some r := H
      have A8 := Aside0.mk A80
      clear A80
      by_cases c9 : (t149 == t150) = true
      · rw [if_pos c9] at H
        have c9b0 : (t149 == t150) = true := c9
        (try (have c9b1 : decide (t149 = t150) = true := by simpa using c9))
        (try (have c9b2 : (t149 == t150) = true := by simpa using c9))
        clear c9
        replace H := Option.bind_eq_some_iff.mp H
        obtain ⟨t151, A100, H⟩ := H
        replace H : ((graftbedref01_Module.f k a0).bind fun t152 => (if t151 = t152 then ((paths_Import.f a0).bind fun t153 => ((graftbedref01_Import.f k a0).bind fun t154 => (if t153 = t154 then ((paths_Valid.f (⟨#[97]⟩ : ByteArray)).bind fun t155 => (some t155)) else (some false)))) else (some false))) = some r := H
        have A10 := Aside0.mk A100
        clear A100
        replace H := Option.bind_eq_some_iff.mp H
        obtain ⟨t152, A110, H⟩ := H
        replace H : (if t151 = t152 then ((paths_Import.f a0).bind fun t153 => ((graftbedref01_Import.f k a0).bind fun t154 => (if t153 = t154 then ((paths_Valid.f (⟨#[97]⟩ : ByteArray)).bind fun t155 => (some t155)) else (some false)))) else (some false)) = some r := H
        have A11 := Aside0.mk A110
        clear A110
        by_cases c12 : t151 = t152
        · rw [if_pos c12] at H
          have c12b0 : (t151 == t152) = true := beq_iff_eq.mpr c12
          have c12b1 : (t151 != t152) = false := bne_eq_false_iff_eq.mpr c12
          clear c12
          replace H := Option.bind_eq_some_iff.mp H
          obtain ⟨t153, A130, H⟩ := H
          replace H : ((graftbedref01_Import.f k a0).bind fun t154 => (if t153 = t154 then ((paths_Valid.f (⟨#[97]⟩ : ByteArray)).bind fun t155 => (some t155)) else (some false))) = some r := H
          have A13 := Aside0.mk A130
          clear A130
          replace H := Option.bind_eq_some_iff.mp H
          obtain ⟨t154, A140, H⟩ := H
          replace H : (if t153 = t154 then ((paths_Valid.f (⟨#[97]⟩ : ByteArray)).bind fun t155 => (some t155)) else (some false)) = some r := H
          have A14 := Aside0.mk A140
          clear A140
          by_cases c15 : t153 = t154
          · rw [if_pos c15] at H
            have c15b0 : (t153 == t154) = true := beq_iff_eq.mpr c15
            have c15b1 : (t153 != t154) = false := bne_eq_false_iff_eq.mpr c15
            clear c15
            replace H := Option.bind_eq_some_iff.mp H
            obtain ⟨t155, A160, H⟩ := H
            replace H : (some t155) = some r := H
            have A16 := Aside0.mk A160
            clear A160
            obtain rfl := Option.some.inj H
            go_enter Try.func3, Try.ntmps3
            go_wp2_with (first | ((with_reducible refine gate_callee (f := 6) rfl ?_); refine goesL_ (some 7) rfl rfl Try.func6 (by kernel_rfl) rfl #[.string a0] rfl (by (try simp only [List.map_toArray, List.map_cons, List.map_nil]); first | done | rfl | (simp only [List.length_drop, List.length_take]; rfl)) ?_; (with_reducible refine (paths_Elems.calls a0 t142 _ A3.out).mono ?_); rintro e w17 ⟨v143, rfl, ho0, hb⟩; refine ⟨_, rfl, ?_⟩; have n0_ := Aside0.mk (Kd.R_lower ho0 (below_size (by repeat (first | (with_reducible first | exact HB.out | apply below_alloc | apply pw_below_drewN | apply below_drew1) | exact HB.out)))); have n1_ := Aside0.mk (below_step (by repeat (first | (with_reducible first | exact HB.out | apply below_alloc | apply pw_below_drewN | apply below_drew1) | exact HB.out)) hb); clear HB; have HO144 := n0_; have HB := n1_; clear n0_ n1_; (try clear hb); (try clear hb2); (try clear hk); (try clear hi); (try clear ho0)) | ((with_reducible refine gate_callee (f := 7) rfl ?_); refine goesL_ (some 9) rfl rfl Try.func7 (by kernel_rfl) rfl #[.string a0] rfl (by (try simp only [List.map_toArray, List.map_cons, List.map_nil]); first | done | rfl | (simp only [List.length_drop, List.length_take]; rfl)) ?_; (with_reducible refine (graftbedref01_Elems.calls k a0 t145 _ A4.out).mono ?_); rintro e w18 ⟨v146, rfl, ho0, hb⟩; refine ⟨_, rfl, ?_⟩; have n0_ := Aside0.mk (Kd.R_elder' (by (with_reducible repeat (first | apply Kd.R_alloc | apply Kd.R_drewN | apply Kd.R_drew)); exact HO144.out) (Kd.R_base ho0) hb); have n1_ := Aside0.mk (Kd.R_lower (Kd.R_new' ho0 (Kd.R_lt (by (with_reducible repeat (first | apply Kd.R_alloc | apply Kd.R_drewN | apply Kd.R_drew)); exact HO144.out))) (below_size (by repeat (first | (with_reducible first | exact HB.out | apply below_alloc | apply pw_below_drewN | apply below_drew1) | exact HB.out)))); have n2_ := Aside0.mk (below_step (by repeat (first | (with_reducible first | exact HB.out | apply below_alloc | apply pw_below_drewN | apply below_drew1) | exact HB.out)) hb); clear HO144; clear HB; have HO144 := n0_; have HO147 := n1_; have HB := n2_; clear n0_ n1_ n2_; (try clear hb); (try clear hb2); (try clear hk); (try clear hi); (try clear ho0); obtain ⟨Ao19, co19, eo19⟩ := Kd.R_slice HO144.out; subst eo19; obtain ⟨Ao20, co20, eo20⟩ := Kd.R_slice HO147.out; subst eo20) | ((with_reducible refine gate_callee (f := 5) rfl ?_); refine goesL_ (some 10) rfl rfl Try.func5 (by kernel_rfl) rfl #[.slice Ao19 t142.length co19, .slice Ao20 t145.length co20] rfl (by (try simp only [List.map_toArray, List.map_cons, List.map_nil]); first | done | rfl | (simp only [List.length_drop, List.length_take]; rfl)) ?_; (with_reducible refine (graftbedlaw01_same.calls k _ _ t142 _ _ t145 true _ ?side1 ?side2 ?side3 ?side4 A5.out).mono ?_); (case side1 => repeat (first | exact (Kd.R_reads' HO144.out).2.2 | (with_reducible refine Kd.C_alloc ?_ _) | (with_reducible refine Kd.C_drewN ?_ _) | (with_reducible refine Kd.C_drew ?_))); (case side2 => exact (Kd.R_reads' HO144.out).2.1); (case side3 => repeat (first | exact (Kd.R_reads' HO147.out).2.2 | (with_reducible refine Kd.C_alloc ?_ _) | (with_reducible refine Kd.C_drewN ?_ _) | (with_reducible refine Kd.C_drew ?_))); (case side4 => exact (Kd.R_reads' HO147.out).2.1); rintro e w' ⟨rfl, ⟨nd, rfl⟩⟩; refine ⟨_, rfl, ?_⟩) | (go_at_call 8; (with_reducible refine (paths_Valid.calls a0 t149 _ A7.out).mono ?_); rintro e w21 ⟨rfl, hb⟩; have n0_ := Aside0.mk (Kd.R_below (by (with_reducible repeat (first | apply Kd.R_alloc | apply Kd.R_drewN | apply Kd.R_drew)); exact HO144.out) hb); have n1_ := Aside0.mk (Kd.R_below (by (with_reducible repeat (first | apply Kd.R_alloc | apply Kd.R_drewN | apply Kd.R_drew)); exact HO147.out) hb); have n2_ := Aside0.mk (below_step (by repeat (first | (with_reducible first | exact HB.out | apply below_alloc | apply pw_below_drewN | apply below_drew1) | exact HB.out)) hb); clear HO144; clear HO147; clear HB; have HO144 := n0_; have HO147 := n1_; have HB := n2_; clear n0_ n1_ n2_; (try clear hb); (try clear hb2); (try clear hk); (try clear hi)) | (go_at_call 9; (with_reducible refine (graftbedref01_Valid.calls k a0 t150 _ A8.out).mono ?_); rintro e w22 ⟨rfl, hb⟩; have n0_ := Aside0.mk (Kd.R_below (by (with_reducible repeat (first | apply Kd.R_alloc | apply Kd.R_drewN | apply Kd.R_drew)); exact HO144.out) hb); have n1_ := Aside0.mk (Kd.R_below (by (with_reducible repeat (first | apply Kd.R_alloc | apply Kd.R_drewN | apply Kd.R_drew)); exact HO147.out) hb); have n2_ := Aside0.mk (below_step (by repeat (first | (with_reducible first | exact HB.out | apply below_alloc | apply pw_below_drewN | apply below_drew1) | exact HB.out)) hb); clear HO144; clear HO147; clear HB; have HO144 := n0_; have HO147 := n1_; have HB := n2_; clear n0_ n1_ n2_; (try clear hb); (try clear hb2); (try clear hk); (try clear hi)) | (go_at_call 10; (with_reducible refine (paths_Module.calls a0 t151 _ A10.out).mono ?_); rintro e w23 ⟨rfl, hb⟩; have n0_ := Aside0.mk (Kd.R_below (by (with_reducible repeat (first | apply Kd.R_alloc | apply Kd.R_drewN | apply Kd.R_drew)); exact HO144.out) hb); have n1_ := Aside0.mk (Kd.R_below (by (with_reducible repeat (first | apply Kd.R_alloc | apply Kd.R_drewN | apply Kd.R_drew)); exact HO147.out) hb); have n2_ := Aside0.mk (below_step (by repeat (first | (with_reducible first | exact HB.out | apply below_alloc | apply pw_below_drewN | apply below_drew1) | exact HB.out)) hb); clear HO144; clear HO147; clear HB; have HO144 := n0_; have HO147 := n1_; have HB := n2_; clear n0_ n1_ n2_; (try clear hb); (try clear hb2); (try clear hk); (try clear hi)) | (go_at_call 11; (with_reducible refine (graftbedref01_Module.calls k a0 t152 _ A11.out).mono ?_); rintro e w24 ⟨rfl, hb⟩; have n0_ := Aside0.mk (Kd.R_below (by (with_reducible repeat (first | apply Kd.R_alloc | apply Kd.R_drewN | apply Kd.R_drew)); exact HO144.out) hb); have n1_ := Aside0.mk (Kd.R_below (by (with_reducible repeat (first | apply Kd.R_alloc | apply Kd.R_drewN | apply Kd.R_drew)); exact HO147.out) hb); have n2_ := Aside0.mk (below_step (by repeat (first | (with_reducible first | exact HB.out | apply below_alloc | apply pw_below_drewN | apply below_drew1) | exact HB.out)) hb); clear HO144; clear HO147; clear HB; have HO144 := n0_; have HO147 := n1_; have HB := n2_; clear n0_ n1_ n2_; (try clear hb); (try clear hb2); (try clear hk); (try clear hi)) | (go_at_call 12; (with_reducible refine (paths_Import.calls a0 t153 _ A13.out).mono ?_); rintro e w25 ⟨rfl, hb⟩; have n0_ := Aside0.mk (Kd.R_below (by (with_reducible repeat (first | apply Kd.R_alloc | apply Kd.R_drewN | apply Kd.R_drew)); exact HO144.out) hb); have n1_ := Aside0.mk (Kd.R_below (by (with_reducible repeat (first | apply Kd.R_alloc | apply Kd.R_drewN | apply Kd.R_drew)); exact HO147.out) hb); have n2_ := Aside0.mk (below_step (by repeat (first | (with_reducible first | exact HB.out | apply below_alloc | apply pw_below_drewN | apply below_drew1) | exact HB.out)) hb); clear HO144; clear HO147; clear HB; have HO144 := n0_; have HO147 := n1_; have HB := n2_; clear n0_ n1_ n2_; (try clear hb); (try clear hb2); (try clear hk); (try clear hi)) | (go_at_call 13; (with_reducible refine (graftbedref01_Import.calls k a0 t154 _ A14.out).mono ?_); rintro e w26 ⟨rfl, hb⟩; have n0_ := Aside0.mk (Kd.R_below (by (with_reducible repeat (first | apply Kd.R_alloc | apply Kd.R_drewN | apply Kd.R_drew)); exact HO144.out) hb); have n1_ := Aside0.mk (Kd.R_below (by (with_reducible repeat (first | apply Kd.R_alloc | apply Kd.R_drewN | apply Kd.R_drew)); exact HO147.out) hb); have n2_ := Aside0.mk (below_step (by repeat (first | (with_reducible first | exact HB.out | apply below_alloc | apply pw_below_drewN | apply below_drew1) | exact HB.out)) hb); clear HO144; clear HO147; clear HB; have HO144 := n0_; have HO147 := n1_; have HB := n2_; clear n0_ n1_ n2_; (try clear hb); (try clear hb2); (try clear hk); (try clear hi)) | (go_at_call 8; (with_reducible refine (paths_Valid.calls (⟨#[97]⟩ : ByteArray) t155 _ A16.out).mono ?_); rintro e w27 ⟨rfl, hb⟩; have n0_ := Aside0.mk (Kd.R_below (by (with_reducible repeat (first | apply Kd.R_alloc | apply Kd.R_drewN | apply Kd.R_drew)); exact HO144.out) hb); have n1_ := Aside0.mk (Kd.R_below (by (with_reducible repeat (first | apply Kd.R_alloc | apply Kd.R_drewN | apply Kd.R_drew)); exact HO147.out) hb); have n2_ := Aside0.mk (below_step (by repeat (first | (with_reducible first | exact HB.out | apply below_alloc | apply pw_below_drewN | apply below_drew1) | exact HB.out)) hb); clear HO144; clear HO147; clear HB; have HO144 := n0_; have HO147 := n1_; have HB := n2_; clear n0_ n1_ n2_; (try clear hb); (try clear hb2); (try clear hk); (try clear hi)))
            go_ret
            exact ⟨by first | rfl | (simp [errW_none, errW_some] <;> rfl) | (simp [*, errW_none, errW_some] <;> rfl), by repeat (first | (with_reducible first | exact HB.out | apply below_alloc | apply pw_below_drewN | apply below_drew1) | exact HB.out)⟩
          · rw [if_neg c15] at H
            have c15b0 : (t153 == t154) = false := beq_eq_false_iff_ne.mpr c15
            have c15b1 : (t153 != t154) = true := bne_iff_ne.mpr c15
            obtain rfl := Option.some.inj H
            go_enter Try.func3, Try.ntmps3
            go_wp2_with (first | ((with_reducible refine gate_callee (f := 6) rfl ?_); refine goesL_ (some 7) rfl rfl Try.func6 (by kernel_rfl) rfl #[.string a0] rfl (by (try simp only [List.map_toArray, List.map_cons, List.map_nil]); first | done | rfl | (simp only [List.length_drop, List.length_take]; rfl)) ?_; (with_reducible refine (paths_Elems.calls a0 t142 _ A3.out).mono ?_); rintro e w28 ⟨v143, rfl, ho0, hb⟩; refine ⟨_, rfl, ?_⟩; have n0_ := Aside0.mk (Kd.R_lower ho0 (below_size (by repeat (first | (with_reducible first | exact HB.out | apply below_alloc | apply pw_below_drewN | apply below_drew1) | exact HB.out)))); have n1_ := Aside0.mk (below_step (by repeat (first | (with_reducible first | exact HB.out | apply below_alloc | apply pw_below_drewN | apply below_drew1) | exact HB.out)) hb); clear HB; have HO144 := n0_; have HB := n1_; clear n0_ n1_; (try clear hb); (try clear hb2); (try clear hk); (try clear hi); (try clear ho0)) | ((with_reducible refine gate_callee (f := 7) rfl ?_); refine goesL_ (some 9) rfl rfl Try.func7 (by kernel_rfl) rfl #[.string a0] rfl (by (try simp only [List.map_toArray, List.map_cons, List.map_nil]); first | done | rfl | (simp only [List.length_drop, List.length_take]; rfl)) ?_; (with_reducible refine (graftbedref01_Elems.calls k a0 t145 _ A4.out).mono ?_); rintro e w29 ⟨v146, rfl, ho0, hb⟩; refine ⟨_, rfl, ?_⟩; have n0_ := Aside0.mk (Kd.R_elder' (by (with_reducible repeat (first | apply Kd.R_alloc | apply Kd.R_drewN | apply Kd.R_drew)); exact HO144.out) (Kd.R_base ho0) hb); have n1_ := Aside0.mk (Kd.R_lower (Kd.R_new' ho0 (Kd.R_lt (by (with_reducible repeat (first | apply Kd.R_alloc | apply Kd.R_drewN | apply Kd.R_drew)); exact HO144.out))) (below_size (by repeat (first | (with_reducible first | exact HB.out | apply below_alloc | apply pw_below_drewN | apply below_drew1) | exact HB.out)))); have n2_ := Aside0.mk (below_step (by repeat (first | (with_reducible first | exact HB.out | apply below_alloc | apply pw_below_drewN | apply below_drew1) | exact HB.out)) hb); clear HO144; clear HB; have HO144 := n0_; have HO147 := n1_; have HB := n2_; clear n0_ n1_ n2_; (try clear hb); (try clear hb2); (try clear hk); (try clear hi); (try clear ho0); obtain ⟨Ao30, co30, eo30⟩ := Kd.R_slice HO144.out; subst eo30; obtain ⟨Ao31, co31, eo31⟩ := Kd.R_slice HO147.out; subst eo31) | ((with_reducible refine gate_callee (f := 5) rfl ?_); refine goesL_ (some 10) rfl rfl Try.func5 (by kernel_rfl) rfl #[.slice Ao30 t142.length co30, .slice Ao31 t145.length co31] rfl (by (try simp only [List.map_toArray, List.map_cons, List.map_nil]); first | done | rfl | (simp only [List.length_drop, List.length_take]; rfl)) ?_; (with_reducible refine (graftbedlaw01_same.calls k _ _ t142 _ _ t145 true _ ?side1 ?side2 ?side3 ?side4 A5.out).mono ?_); (case side1 => repeat (first | exact (Kd.R_reads' HO144.out).2.2 | (with_reducible refine Kd.C_alloc ?_ _) | (with_reducible refine Kd.C_drewN ?_ _) | (with_reducible refine Kd.C_drew ?_))); (case side2 => exact (Kd.R_reads' HO144.out).2.1); (case side3 => repeat (first | exact (Kd.R_reads' HO147.out).2.2 | (with_reducible refine Kd.C_alloc ?_ _) | (with_reducible refine Kd.C_drewN ?_ _) | (with_reducible refine Kd.C_drew ?_))); (case side4 => exact (Kd.R_reads' HO147.out).2.1); rintro e w' ⟨rfl, ⟨nd, rfl⟩⟩; refine ⟨_, rfl, ?_⟩) | (go_at_call 8; (with_reducible refine (paths_Valid.calls a0 t149 _ A7.out).mono ?_); rintro e w32 ⟨rfl, hb⟩; have n0_ := Aside0.mk (Kd.R_below (by (with_reducible repeat (first | apply Kd.R_alloc | apply Kd.R_drewN | apply Kd.R_drew)); exact HO144.out) hb); have n1_ := Aside0.mk (Kd.R_below (by (with_reducible repeat (first | apply Kd.R_alloc | apply Kd.R_drewN | apply Kd.R_drew)); exact HO147.out) hb); have n2_ := Aside0.mk (below_step (by repeat (first | (with_reducible first | exact HB.out | apply below_alloc | apply pw_below_drewN | apply below_drew1) | exact HB.out)) hb); clear HO144; clear HO147; clear HB; have HO144 := n0_; have HO147 := n1_; have HB := n2_; clear n0_ n1_ n2_; (try clear hb); (try clear hb2); (try clear hk); (try clear hi)) | (go_at_call 9; (with_reducible refine (graftbedref01_Valid.calls k a0 t150 _ A8.out).mono ?_); rintro e w33 ⟨rfl, hb⟩; have n0_ := Aside0.mk (Kd.R_below (by (with_reducible repeat (first | apply Kd.R_alloc | apply Kd.R_drewN | apply Kd.R_drew)); exact HO144.out) hb); have n1_ := Aside0.mk (Kd.R_below (by (with_reducible repeat (first | apply Kd.R_alloc | apply Kd.R_drewN | apply Kd.R_drew)); exact HO147.out) hb); have n2_ := Aside0.mk (below_step (by repeat (first | (with_reducible first | exact HB.out | apply below_alloc | apply pw_below_drewN | apply below_drew1) | exact HB.out)) hb); clear HO144; clear HO147; clear HB; have HO144 := n0_; have HO147 := n1_; have HB := n2_; clear n0_ n1_ n2_; (try clear hb); (try clear hb2); (try clear hk); (try clear hi)) | (go_at_call 10; (with_reducible refine (paths_Module.calls a0 t151 _ A10.out).mono ?_); rintro e w34 ⟨rfl, hb⟩; have n0_ := Aside0.mk (Kd.R_below (by (with_reducible repeat (first | apply Kd.R_alloc | apply Kd.R_drewN | apply Kd.R_drew)); exact HO144.out) hb); have n1_ := Aside0.mk (Kd.R_below (by (with_reducible repeat (first | apply Kd.R_alloc | apply Kd.R_drewN | apply Kd.R_drew)); exact HO147.out) hb); have n2_ := Aside0.mk (below_step (by repeat (first | (with_reducible first | exact HB.out | apply below_alloc | apply pw_below_drewN | apply below_drew1) | exact HB.out)) hb); clear HO144; clear HO147; clear HB; have HO144 := n0_; have HO147 := n1_; have HB := n2_; clear n0_ n1_ n2_; (try clear hb); (try clear hb2); (try clear hk); (try clear hi)) | (go_at_call 11; (with_reducible refine (graftbedref01_Module.calls k a0 t152 _ A11.out).mono ?_); rintro e w35 ⟨rfl, hb⟩; have n0_ := Aside0.mk (Kd.R_below (by (with_reducible repeat (first | apply Kd.R_alloc | apply Kd.R_drewN | apply Kd.R_drew)); exact HO144.out) hb); have n1_ := Aside0.mk (Kd.R_below (by (with_reducible repeat (first | apply Kd.R_alloc | apply Kd.R_drewN | apply Kd.R_drew)); exact HO147.out) hb); have n2_ := Aside0.mk (below_step (by repeat (first | (with_reducible first | exact HB.out | apply below_alloc | apply pw_below_drewN | apply below_drew1) | exact HB.out)) hb); clear HO144; clear HO147; clear HB; have HO144 := n0_; have HO147 := n1_; have HB := n2_; clear n0_ n1_ n2_; (try clear hb); (try clear hb2); (try clear hk); (try clear hi)) | (go_at_call 12; (with_reducible refine (paths_Import.calls a0 t153 _ A13.out).mono ?_); rintro e w36 ⟨rfl, hb⟩; have n0_ := Aside0.mk (Kd.R_below (by (with_reducible repeat (first | apply Kd.R_alloc | apply Kd.R_drewN | apply Kd.R_drew)); exact HO144.out) hb); have n1_ := Aside0.mk (Kd.R_below (by (with_reducible repeat (first | apply Kd.R_alloc | apply Kd.R_drewN | apply Kd.R_drew)); exact HO147.out) hb); have n2_ := Aside0.mk (below_step (by repeat (first | (with_reducible first | exact HB.out | apply below_alloc | apply pw_below_drewN | apply below_drew1) | exact HB.out)) hb); clear HO144; clear HO147; clear HB; have HO144 := n0_; have HO147 := n1_; have HB := n2_; clear n0_ n1_ n2_; (try clear hb); (try clear hb2); (try clear hk); (try clear hi)) | (go_at_call 13; (with_reducible refine (graftbedref01_Import.calls k a0 t154 _ A14.out).mono ?_); rintro e w37 ⟨rfl, hb⟩; have n0_ := Aside0.mk (Kd.R_below (by (with_reducible repeat (first | apply Kd.R_alloc | apply Kd.R_drewN | apply Kd.R_drew)); exact HO144.out) hb); have n1_ := Aside0.mk (Kd.R_below (by (with_reducible repeat (first | apply Kd.R_alloc | apply Kd.R_drewN | apply Kd.R_drew)); exact HO147.out) hb); have n2_ := Aside0.mk (below_step (by repeat (first | (with_reducible first | exact HB.out | apply below_alloc | apply pw_below_drewN | apply below_drew1) | exact HB.out)) hb); clear HO144; clear HO147; clear HB; have HO144 := n0_; have HO147 := n1_; have HB := n2_; clear n0_ n1_ n2_; (try clear hb); (try clear hb2); (try clear hk); (try clear hi)))
            go_ret
            exact ⟨by first | rfl | (simp [errW_none, errW_some] <;> rfl) | (simp [*, errW_none, errW_some] <;> rfl), by repeat (first | (with_reducible first | exact HB.out | apply below_alloc | apply pw_below_drewN | apply below_drew1) | exact HB.out)⟩
        · rw [if_neg c12] at H
          have c12b0 : (t151 == t152) = false := beq_eq_false_iff_ne.mpr c12
          have c12b1 : (t151 != t152) = true := bne_iff_ne.mpr c12
          obtain rfl := Option.some.inj H
          go_enter Try.func3, Try.ntmps3
          go_wp2_with (first | ((with_reducible refine gate_callee (f := 6) rfl ?_); refine goesL_ (some 7) rfl rfl Try.func6 (by kernel_rfl) rfl #[.string a0] rfl (by (try simp only [List.map_toArray, List.map_cons, List.map_nil]); first | done | rfl | (simp only [List.length_drop, List.length_take]; rfl)) ?_; (with_reducible refine (paths_Elems.calls a0 t142 _ A3.out).mono ?_); rintro e w38 ⟨v143, rfl, ho0, hb⟩; refine ⟨_, rfl, ?_⟩; have n0_ := Aside0.mk (Kd.R_lower ho0 (below_size (by repeat (first | (with_reducible first | exact HB.out | apply below_alloc | apply pw_below_drewN | apply below_drew1) | exact HB.out)))); have n1_ := Aside0.mk (below_step (by repeat (first | (with_reducible first | exact HB.out | apply below_alloc | apply pw_below_drewN | apply below_drew1) | exact HB.out)) hb); clear HB; have HO144 := n0_; have HB := n1_; clear n0_ n1_; (try clear hb); (try clear hb2); (try clear hk); (try clear hi); (try clear ho0)) | ((with_reducible refine gate_callee (f := 7) rfl ?_); refine goesL_ (some 9) rfl rfl Try.func7 (by kernel_rfl) rfl #[.string a0] rfl (by (try simp only [List.map_toArray, List.map_cons, List.map_nil]); first | done | rfl | (simp only [List.length_drop, List.length_take]; rfl)) ?_; (with_reducible refine (graftbedref01_Elems.calls k a0 t145 _ A4.out).mono ?_); rintro e w39 ⟨v146, rfl, ho0, hb⟩; refine ⟨_, rfl, ?_⟩; have n0_ := Aside0.mk (Kd.R_elder' (by (with_reducible repeat (first | apply Kd.R_alloc | apply Kd.R_drewN | apply Kd.R_drew)); exact HO144.out) (Kd.R_base ho0) hb); have n1_ := Aside0.mk (Kd.R_lower (Kd.R_new' ho0 (Kd.R_lt (by (with_reducible repeat (first | apply Kd.R_alloc | apply Kd.R_drewN | apply Kd.R_drew)); exact HO144.out))) (below_size (by repeat (first | (with_reducible first | exact HB.out | apply below_alloc | apply pw_below_drewN | apply below_drew1) | exact HB.out)))); have n2_ := Aside0.mk (below_step (by repeat (first | (with_reducible first | exact HB.out | apply below_alloc | apply pw_below_drewN | apply below_drew1) | exact HB.out)) hb); clear HO144; clear HB; have HO144 := n0_; have HO147 := n1_; have HB := n2_; clear n0_ n1_ n2_; (try clear hb); (try clear hb2); (try clear hk); (try clear hi); (try clear ho0); obtain ⟨Ao40, co40, eo40⟩ := Kd.R_slice HO144.out; subst eo40; obtain ⟨Ao41, co41, eo41⟩ := Kd.R_slice HO147.out; subst eo41) | ((with_reducible refine gate_callee (f := 5) rfl ?_); refine goesL_ (some 10) rfl rfl Try.func5 (by kernel_rfl) rfl #[.slice Ao40 t142.length co40, .slice Ao41 t145.length co41] rfl (by (try simp only [List.map_toArray, List.map_cons, List.map_nil]); first | done | rfl | (simp only [List.length_drop, List.length_take]; rfl)) ?_; (with_reducible refine (graftbedlaw01_same.calls k _ _ t142 _ _ t145 true _ ?side1 ?side2 ?side3 ?side4 A5.out).mono ?_); (case side1 => repeat (first | exact (Kd.R_reads' HO144.out).2.2 | (with_reducible refine Kd.C_alloc ?_ _) | (with_reducible refine Kd.C_drewN ?_ _) | (with_reducible refine Kd.C_drew ?_))); (case side2 => exact (Kd.R_reads' HO144.out).2.1); (case side3 => repeat (first | exact (Kd.R_reads' HO147.out).2.2 | (with_reducible refine Kd.C_alloc ?_ _) | (with_reducible refine Kd.C_drewN ?_ _) | (with_reducible refine Kd.C_drew ?_))); (case side4 => exact (Kd.R_reads' HO147.out).2.1); rintro e w' ⟨rfl, ⟨nd, rfl⟩⟩; refine ⟨_, rfl, ?_⟩) | (go_at_call 8; (with_reducible refine (paths_Valid.calls a0 t149 _ A7.out).mono ?_); rintro e w42 ⟨rfl, hb⟩; have n0_ := Aside0.mk (Kd.R_below (by (with_reducible repeat (first | apply Kd.R_alloc | apply Kd.R_drewN | apply Kd.R_drew)); exact HO144.out) hb); have n1_ := Aside0.mk (Kd.R_below (by (with_reducible repeat (first | apply Kd.R_alloc | apply Kd.R_drewN | apply Kd.R_drew)); exact HO147.out) hb); have n2_ := Aside0.mk (below_step (by repeat (first | (with_reducible first | exact HB.out | apply below_alloc | apply pw_below_drewN | apply below_drew1) | exact HB.out)) hb); clear HO144; clear HO147; clear HB; have HO144 := n0_; have HO147 := n1_; have HB := n2_; clear n0_ n1_ n2_; (try clear hb); (try clear hb2); (try clear hk); (try clear hi)) | (go_at_call 9; (with_reducible refine (graftbedref01_Valid.calls k a0 t150 _ A8.out).mono ?_); rintro e w43 ⟨rfl, hb⟩; have n0_ := Aside0.mk (Kd.R_below (by (with_reducible repeat (first | apply Kd.R_alloc | apply Kd.R_drewN | apply Kd.R_drew)); exact HO144.out) hb); have n1_ := Aside0.mk (Kd.R_below (by (with_reducible repeat (first | apply Kd.R_alloc | apply Kd.R_drewN | apply Kd.R_drew)); exact HO147.out) hb); have n2_ := Aside0.mk (below_step (by repeat (first | (with_reducible first | exact HB.out | apply below_alloc | apply pw_below_drewN | apply below_drew1) | exact HB.out)) hb); clear HO144; clear HO147; clear HB; have HO144 := n0_; have HO147 := n1_; have HB := n2_; clear n0_ n1_ n2_; (try clear hb); (try clear hb2); (try clear hk); (try clear hi)) | (go_at_call 10; (with_reducible refine (paths_Module.calls a0 t151 _ A10.out).mono ?_); rintro e w44 ⟨rfl, hb⟩; have n0_ := Aside0.mk (Kd.R_below (by (with_reducible repeat (first | apply Kd.R_alloc | apply Kd.R_drewN | apply Kd.R_drew)); exact HO144.out) hb); have n1_ := Aside0.mk (Kd.R_below (by (with_reducible repeat (first | apply Kd.R_alloc | apply Kd.R_drewN | apply Kd.R_drew)); exact HO147.out) hb); have n2_ := Aside0.mk (below_step (by repeat (first | (with_reducible first | exact HB.out | apply below_alloc | apply pw_below_drewN | apply below_drew1) | exact HB.out)) hb); clear HO144; clear HO147; clear HB; have HO144 := n0_; have HO147 := n1_; have HB := n2_; clear n0_ n1_ n2_; (try clear hb); (try clear hb2); (try clear hk); (try clear hi)) | (go_at_call 11; (with_reducible refine (graftbedref01_Module.calls k a0 t152 _ A11.out).mono ?_); rintro e w45 ⟨rfl, hb⟩; have n0_ := Aside0.mk (Kd.R_below (by (with_reducible repeat (first | apply Kd.R_alloc | apply Kd.R_drewN | apply Kd.R_drew)); exact HO144.out) hb); have n1_ := Aside0.mk (Kd.R_below (by (with_reducible repeat (first | apply Kd.R_alloc | apply Kd.R_drewN | apply Kd.R_drew)); exact HO147.out) hb); have n2_ := Aside0.mk (below_step (by repeat (first | (with_reducible first | exact HB.out | apply below_alloc | apply pw_below_drewN | apply below_drew1) | exact HB.out)) hb); clear HO144; clear HO147; clear HB; have HO144 := n0_; have HO147 := n1_; have HB := n2_; clear n0_ n1_ n2_; (try clear hb); (try clear hb2); (try clear hk); (try clear hi)))
          go_ret
          exact ⟨by first | rfl | (simp [errW_none, errW_some] <;> rfl) | (simp [*, errW_none, errW_some] <;> rfl), by repeat (first | (with_reducible first | exact HB.out | apply below_alloc | apply pw_below_drewN | apply below_drew1) | exact HB.out)⟩
      · rw [if_neg c9] at H
        have c9b0 : (t149 == t150) = false := by simpa using c9
        (try (have c9b1 : decide (t149 = t150) = false := by simpa using c9))
        (try (have c9b2 : (t149 == t150) = false := by simpa using c9))
        (try (have c9b3 : ¬ (t149 = t150) := by simpa using c9))
        clear c9
        obtain rfl := Option.some.inj H
        go_enter Try.func3, Try.ntmps3
        go_wp2_with (first | ((with_reducible refine gate_callee (f := 6) rfl ?_); refine goesL_ (some 7) rfl rfl Try.func6 (by kernel_rfl) rfl #[.string a0] rfl (by (try simp only [List.map_toArray, List.map_cons, List.map_nil]); first | done | rfl | (simp only [List.length_drop, List.length_take]; rfl)) ?_; (with_reducible refine (paths_Elems.calls a0 t142 _ A3.out).mono ?_); rintro e w46 ⟨v143, rfl, ho0, hb⟩; refine ⟨_, rfl, ?_⟩; have n0_ := Aside0.mk (Kd.R_lower ho0 (below_size (by repeat (first | (with_reducible first | exact HB.out | apply below_alloc | apply pw_below_drewN | apply below_drew1) | exact HB.out)))); have n1_ := Aside0.mk (below_step (by repeat (first | (with_reducible first | exact HB.out | apply below_alloc | apply pw_below_drewN | apply below_drew1) | exact HB.out)) hb); clear HB; have HO144 := n0_; have HB := n1_; clear n0_ n1_; (try clear hb); (try clear hb2); (try clear hk); (try clear hi); (try clear ho0)) | ((with_reducible refine gate_callee (f := 7) rfl ?_); refine goesL_ (some 9) rfl rfl Try.func7 (by kernel_rfl) rfl #[.string a0] rfl (by (try simp only [List.map_toArray, List.map_cons, List.map_nil]); first | done | rfl | (simp only [List.length_drop, List.length_take]; rfl)) ?_; (with_reducible refine (graftbedref01_Elems.calls k a0 t145 _ A4.out).mono ?_); rintro e w47 ⟨v146, rfl, ho0, hb⟩; refine ⟨_, rfl, ?_⟩; have n0_ := Aside0.mk (Kd.R_elder' (by (with_reducible repeat (first | apply Kd.R_alloc | apply Kd.R_drewN | apply Kd.R_drew)); exact HO144.out) (Kd.R_base ho0) hb); have n1_ := Aside0.mk (Kd.R_lower (Kd.R_new' ho0 (Kd.R_lt (by (with_reducible repeat (first | apply Kd.R_alloc | apply Kd.R_drewN | apply Kd.R_drew)); exact HO144.out))) (below_size (by repeat (first | (with_reducible first | exact HB.out | apply below_alloc | apply pw_below_drewN | apply below_drew1) | exact HB.out)))); have n2_ := Aside0.mk (below_step (by repeat (first | (with_reducible first | exact HB.out | apply below_alloc | apply pw_below_drewN | apply below_drew1) | exact HB.out)) hb); clear HO144; clear HB; have HO144 := n0_; have HO147 := n1_; have HB := n2_; clear n0_ n1_ n2_; (try clear hb); (try clear hb2); (try clear hk); (try clear hi); (try clear ho0); obtain ⟨Ao48, co48, eo48⟩ := Kd.R_slice HO144.out; subst eo48; obtain ⟨Ao49, co49, eo49⟩ := Kd.R_slice HO147.out; subst eo49) | ((with_reducible refine gate_callee (f := 5) rfl ?_); refine goesL_ (some 10) rfl rfl Try.func5 (by kernel_rfl) rfl #[.slice Ao48 t142.length co48, .slice Ao49 t145.length co49] rfl (by (try simp only [List.map_toArray, List.map_cons, List.map_nil]); first | done | rfl | (simp only [List.length_drop, List.length_take]; rfl)) ?_; (with_reducible refine (graftbedlaw01_same.calls k _ _ t142 _ _ t145 true _ ?side1 ?side2 ?side3 ?side4 A5.out).mono ?_); (case side1 => repeat (first | exact (Kd.R_reads' HO144.out).2.2 | (with_reducible refine Kd.C_alloc ?_ _) | (with_reducible refine Kd.C_drewN ?_ _) | (with_reducible refine Kd.C_drew ?_))); (case side2 => exact (Kd.R_reads' HO144.out).2.1); (case side3 => repeat (first | exact (Kd.R_reads' HO147.out).2.2 | (with_reducible refine Kd.C_alloc ?_ _) | (with_reducible refine Kd.C_drewN ?_ _) | (with_reducible refine Kd.C_drew ?_))); (case side4 => exact (Kd.R_reads' HO147.out).2.1); rintro e w' ⟨rfl, ⟨nd, rfl⟩⟩; refine ⟨_, rfl, ?_⟩) | (go_at_call 8; (with_reducible refine (paths_Valid.calls a0 t149 _ A7.out).mono ?_); rintro e w50 ⟨rfl, hb⟩; have n0_ := Aside0.mk (Kd.R_below (by (with_reducible repeat (first | apply Kd.R_alloc | apply Kd.R_drewN | apply Kd.R_drew)); exact HO144.out) hb); have n1_ := Aside0.mk (Kd.R_below (by (with_reducible repeat (first | apply Kd.R_alloc | apply Kd.R_drewN | apply Kd.R_drew)); exact HO147.out) hb); have n2_ := Aside0.mk (below_step (by repeat (first | (with_reducible first | exact HB.out | apply below_alloc | apply pw_below_drewN | apply below_drew1) | exact HB.out)) hb); clear HO144; clear HO147; clear HB; have HO144 := n0_; have HO147 := n1_; have HB := n2_; clear n0_ n1_ n2_; (try clear hb); (try clear hb2); (try clear hk); (try clear hi)) | (go_at_call 9; (with_reducible refine (graftbedref01_Valid.calls k a0 t150 _ A8.out).mono ?_); rintro e w51 ⟨rfl, hb⟩; have n0_ := Aside0.mk (Kd.R_below (by (with_reducible repeat (first | apply Kd.R_alloc | apply Kd.R_drewN | apply Kd.R_drew)); exact HO144.out) hb); have n1_ := Aside0.mk (Kd.R_below (by (with_reducible repeat (first | apply Kd.R_alloc | apply Kd.R_drewN | apply Kd.R_drew)); exact HO147.out) hb); have n2_ := Aside0.mk (below_step (by repeat (first | (with_reducible first | exact HB.out | apply below_alloc | apply pw_below_drewN | apply below_drew1) | exact HB.out)) hb); clear HO144; clear HO147; clear HB; have HO144 := n0_; have HO147 := n1_; have HB := n2_; clear n0_ n1_ n2_; (try clear hb); (try clear hb2); (try clear hk); (try clear hi)))
        go_ret
        exact ⟨by first | rfl | (simp [errW_none, errW_some] <;> rfl) | (simp [*, errW_none, errW_some] <;> rfl), by repeat (first | (with_reducible first | exact HB.out | apply below_alloc | apply pw_below_drewN | apply below_drew1) | exact HB.out)⟩
    · replace c6 := Bool.eq_false_iff.mpr c6
      subst c6
      have H1 : (some false) = some r := by rw [if_neg (show ¬ (false = true) by decide)] at H; exact H
      clear H
      have H := H1
      clear H1
      obtain rfl := Option.some.inj H
      go_enter Try.func3, Try.ntmps3
      go_wp2_with (first | ((with_reducible refine gate_callee (f := 6) rfl ?_); refine goesL_ (some 7) rfl rfl Try.func6 (by kernel_rfl) rfl #[.string a0] rfl (by (try simp only [List.map_toArray, List.map_cons, List.map_nil]); first | done | rfl | (simp only [List.length_drop, List.length_take]; rfl)) ?_; (with_reducible refine (paths_Elems.calls a0 t142 _ A3.out).mono ?_); rintro e w52 ⟨v143, rfl, ho0, hb⟩; refine ⟨_, rfl, ?_⟩; have n0_ := Aside0.mk (Kd.R_lower ho0 (below_size (by repeat (first | (with_reducible first | exact HB.out | apply below_alloc | apply pw_below_drewN | apply below_drew1) | exact HB.out)))); have n1_ := Aside0.mk (below_step (by repeat (first | (with_reducible first | exact HB.out | apply below_alloc | apply pw_below_drewN | apply below_drew1) | exact HB.out)) hb); clear HB; have HO144 := n0_; have HB := n1_; clear n0_ n1_; (try clear hb); (try clear hb2); (try clear hk); (try clear hi); (try clear ho0)) | ((with_reducible refine gate_callee (f := 7) rfl ?_); refine goesL_ (some 9) rfl rfl Try.func7 (by kernel_rfl) rfl #[.string a0] rfl (by (try simp only [List.map_toArray, List.map_cons, List.map_nil]); first | done | rfl | (simp only [List.length_drop, List.length_take]; rfl)) ?_; (with_reducible refine (graftbedref01_Elems.calls k a0 t145 _ A4.out).mono ?_); rintro e w53 ⟨v146, rfl, ho0, hb⟩; refine ⟨_, rfl, ?_⟩; have n0_ := Aside0.mk (Kd.R_elder' (by (with_reducible repeat (first | apply Kd.R_alloc | apply Kd.R_drewN | apply Kd.R_drew)); exact HO144.out) (Kd.R_base ho0) hb); have n1_ := Aside0.mk (Kd.R_lower (Kd.R_new' ho0 (Kd.R_lt (by (with_reducible repeat (first | apply Kd.R_alloc | apply Kd.R_drewN | apply Kd.R_drew)); exact HO144.out))) (below_size (by repeat (first | (with_reducible first | exact HB.out | apply below_alloc | apply pw_below_drewN | apply below_drew1) | exact HB.out)))); have n2_ := Aside0.mk (below_step (by repeat (first | (with_reducible first | exact HB.out | apply below_alloc | apply pw_below_drewN | apply below_drew1) | exact HB.out)) hb); clear HO144; clear HB; have HO144 := n0_; have HO147 := n1_; have HB := n2_; clear n0_ n1_ n2_; (try clear hb); (try clear hb2); (try clear hk); (try clear hi); (try clear ho0); obtain ⟨Ao54, co54, eo54⟩ := Kd.R_slice HO144.out; subst eo54; obtain ⟨Ao55, co55, eo55⟩ := Kd.R_slice HO147.out; subst eo55) | ((with_reducible refine gate_callee (f := 5) rfl ?_); refine goesL_ (some 10) rfl rfl Try.func5 (by kernel_rfl) rfl #[.slice Ao54 t142.length co54, .slice Ao55 t145.length co55] rfl (by (try simp only [List.map_toArray, List.map_cons, List.map_nil]); first | done | rfl | (simp only [List.length_drop, List.length_take]; rfl)) ?_; (with_reducible refine (graftbedlaw01_same.calls k _ _ t142 _ _ t145 false _ ?side1 ?side2 ?side3 ?side4 A5.out).mono ?_); (case side1 => repeat (first | exact (Kd.R_reads' HO144.out).2.2 | (with_reducible refine Kd.C_alloc ?_ _) | (with_reducible refine Kd.C_drewN ?_ _) | (with_reducible refine Kd.C_drew ?_))); (case side2 => exact (Kd.R_reads' HO144.out).2.1); (case side3 => repeat (first | exact (Kd.R_reads' HO147.out).2.2 | (with_reducible refine Kd.C_alloc ?_ _) | (with_reducible refine Kd.C_drewN ?_ _) | (with_reducible refine Kd.C_drew ?_))); (case side4 => exact (Kd.R_reads' HO147.out).2.1); rintro e w' ⟨rfl, ⟨nd, rfl⟩⟩; refine ⟨_, rfl, ?_⟩))
      go_ret
      exact ⟨by first | rfl | (simp [errW_none, errW_some] <;> rfl) | (simp [*, errW_none, errW_some] <;> rfl), by repeat (first | (with_reducible first | exact HB.out | apply below_alloc | apply pw_below_drewN | apply below_drew1) | exact HB.out)⟩

/-- THE ONE PURE STATEMENT of graftbedlaw01_PathsTells: yours. -/
def graftbedlaw01_PathsTells.Pure : Prop := ∀ (a0 : ByteArray), a0.size ≤ 140737488351232 → ∃ k, graftbedlaw01_PathsTells.f k a0 = some true
theorem graftbedlaw01_PathsTells.walk (P : graftbedlaw01_PathsTells.Pure) (a0 : ByteArray) (w : World) (w0 : a0.size ≤ 140737488351232) :
    Calls Try.prog 3 #[.string a0] w fun e w' => e = .returned (.bool true) ∧ Below w.heap.size w w' := by
  obtain ⟨k, h⟩ := P a0 w0
  refine (graftbedlaw01_PathsTells.calls k a0 true w h).mono ?_
  rintro e w' ⟨rfl, hd⟩
  exact ⟨rfl, hd⟩

end Go.Proofs.Ytcfmaeonginefaa.PA
