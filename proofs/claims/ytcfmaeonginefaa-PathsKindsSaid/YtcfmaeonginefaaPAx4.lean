-- Printed by this session's own program (wip/fprint.py) over the kit's print. Lean checks it.
import Derived.Test.YtcfmaeonginefaaPAx0
import Derived.Test.YtcfmaeonginefaaPAx1
import Derived.Test.YtcfmaeonginefaaPAx2
import Derived.Test.YtcfmaeonginefaaPAx3
namespace Go.Proofs.Ytcfmaeonginefaa.PA
open Go.RowKit Go.Proofs.YtcfmaeonginefaaW.PrintWords Go.Proofs.YtcfmaeonginefaaW.PrintLast Go.Proofs.YtcfmaeonginefaaW.PrintMore
attribute [local go_sem] max2_int min2_int max_two min_two max_three min_three max_four min_four   -- for this text's walks alone
set_option linter.unusedVariables false
set_option linter.unusedSimpArgs false


/-! ### graftbedref01_Module: function 11 -/
mutual
def graftbedref01_Module.j0 : Nat → ByteArray → Bool → Option (Int)
  | 0, _, _ => none
  | k + 1, x0, x14 => if x14 = true then (some 10) else ((graftbedref01_Elems.f k x0).bind fun t124 => (graftbedref01_Module.l0 k t124 false 0))
def graftbedref01_Module.l0 : Nat → List ByteArray → Bool → Int → Option (Int)
  | 0, _, _, _ => none
  | k + 1, x3, x4, x5 => if 0 < (x3.length : Int) then (if x5 < ((rdOf ByteArray.empty x3 0).size : Int) then (if x4 = true then (graftbedref01_Module.l0 k x3 true (wrap64 (x5 + 1))) else (if 0 ≤ x5 then (graftbedref01_Module.l0 k x3 ((bt (rdOf ByteArray.empty x3 0) x5) == 46) (wrap64 (x5 + 1))) else (none))) else (if x4 = true then (if 0 < ((rdOf ByteArray.empty x3 0).size : Int) then (graftbedref01_Module.j2 k x3 ((bt (rdOf ByteArray.empty x3 0) 0) == 45)) else (none)) else (graftbedref01_Module.j2 k x3 true))) else (none)
def graftbedref01_Module.j2 : Nat → List ByteArray → Bool → Option (Int)
  | 0, _, _ => none
  | k + 1, x3, x42 => if x42 = true then (some 10) else (graftbedref01_Module.l1 k x3 0)
def graftbedref01_Module.l1 : Nat → List ByteArray → Int → Option (Int)
  | 0, _, _ => none
  | k + 1, x3, x6 => if x6 < (x3.length : Int) then (if 0 ≤ x6 then (if 0 < ((rdOf ByteArray.empty x3 x6).size : Int) then (if (bt (rdOf ByteArray.empty x3 x6) 0) = 46 then (some 10) else (if 0 ≤ (wrap64 (((rdOf ByteArray.empty x3 x6).size : Int) - 1)) then (if (wrap64 (((rdOf ByteArray.empty x3 x6).size : Int) - 1)) < ((rdOf ByteArray.empty x3 x6).size : Int) then (if (bt (rdOf ByteArray.empty x3 x6) (wrap64 (((rdOf ByteArray.empty x3 x6).size : Int) - 1))) = 46 then (some 10) else (graftbedref01_Module.l1 k x3 (wrap64 (x6 + 1)))) else (none)) else (none))) else (none)) else (none)) else (some 0)
end
def graftbedref01_Module.f (k : Nat) (a0 : ByteArray) : Option (Int) := (graftbedref01_Valid.f k a0).bind fun t122 => (if t122 = true then ((graftbedref01_made.f k a0 false (⟨#[45, 46, 95, 126, 47]⟩ : ByteArray)).bind fun t123 => (graftbedref01_Module.j0 k a0 (!t123))) else (graftbedref01_Module.j0 k a0 true))
theorem graftbedref01_Module.mono_l : ∀ k, (∀ y0 y1, LeO (graftbedref01_Module.j0 k y0 y1) (graftbedref01_Module.j0 (k + 1) y0 y1)) ∧ (∀ y0 y1 y2, LeO (graftbedref01_Module.l0 k y0 y1 y2) (graftbedref01_Module.l0 (k + 1) y0 y1 y2)) ∧ (∀ y0 y1, LeO (graftbedref01_Module.j2 k y0 y1) (graftbedref01_Module.j2 (k + 1) y0 y1)) ∧ (∀ y0 y1, LeO (graftbedref01_Module.l1 k y0 y1) (graftbedref01_Module.l1 (k + 1) y0 y1))
  | 0 => ⟨fun _ _ r h => by simp [graftbedref01_Module.j0] at h, fun _ _ _ r h => by simp [graftbedref01_Module.l0] at h, fun _ _ r h => by simp [graftbedref01_Module.j2] at h, fun _ _ r h => by simp [graftbedref01_Module.l1] at h⟩
  | k + 1 => by
    obtain ⟨ih0, ih1, ih2, ih3⟩ := graftbedref01_Module.mono_l k
    refine ⟨?_, ?_, ?_, ?_⟩
    · intro y0 y1
      unfold graftbedref01_Module.j0
      repeat' first
      | (with_reducible exact ih0 _ _)
      | (with_reducible exact ih1 _ _ _)
      | (with_reducible exact ih2 _ _)
      | (with_reducible exact ih3 _ _)
      | (with_reducible exact graftbedref01_Elems.mono _ _)
      | (with_reducible exact graftbedref01_Valid.mono _ _)
      | (with_reducible exact graftbedref01_made.mono _ _ _ _)
      | (with_reducible exact LeO.refl _)
      | (with_reducible exact LeO.none _)
      | (with_reducible refine LeO.ite ?_ ?_)
      | (with_reducible refine LeO.bind ?_ (fun _ => ?_))
      | exact ih0 _ _
      | exact ih1 _ _ _
      | exact ih2 _ _
      | exact ih3 _ _
      | exact graftbedref01_Elems.mono _ _
      | exact graftbedref01_Valid.mono _ _
      | exact graftbedref01_made.mono _ _ _ _
      | exact LeO.none _
      | refine LeO.ite ?_ ?_
      | refine LeO.bind ?_ (fun _ => ?_)
    · intro y0 y1 y2
      unfold graftbedref01_Module.l0
      repeat' first
      | (with_reducible exact ih0 _ _)
      | (with_reducible exact ih1 _ _ _)
      | (with_reducible exact ih2 _ _)
      | (with_reducible exact ih3 _ _)
      | (with_reducible exact graftbedref01_Elems.mono _ _)
      | (with_reducible exact graftbedref01_Valid.mono _ _)
      | (with_reducible exact graftbedref01_made.mono _ _ _ _)
      | (with_reducible exact LeO.refl _)
      | (with_reducible exact LeO.none _)
      | (with_reducible refine LeO.ite ?_ ?_)
      | (with_reducible refine LeO.bind ?_ (fun _ => ?_))
      | exact ih0 _ _
      | exact ih1 _ _ _
      | exact ih2 _ _
      | exact ih3 _ _
      | exact graftbedref01_Elems.mono _ _
      | exact graftbedref01_Valid.mono _ _
      | exact graftbedref01_made.mono _ _ _ _
      | exact LeO.none _
      | refine LeO.ite ?_ ?_
      | refine LeO.bind ?_ (fun _ => ?_)
    · intro y0 y1
      unfold graftbedref01_Module.j2
      repeat' first
      | (with_reducible exact ih0 _ _)
      | (with_reducible exact ih1 _ _ _)
      | (with_reducible exact ih2 _ _)
      | (with_reducible exact ih3 _ _)
      | (with_reducible exact graftbedref01_Elems.mono _ _)
      | (with_reducible exact graftbedref01_Valid.mono _ _)
      | (with_reducible exact graftbedref01_made.mono _ _ _ _)
      | (with_reducible exact LeO.refl _)
      | (with_reducible exact LeO.none _)
      | (with_reducible refine LeO.ite ?_ ?_)
      | (with_reducible refine LeO.bind ?_ (fun _ => ?_))
      | exact ih0 _ _
      | exact ih1 _ _ _
      | exact ih2 _ _
      | exact ih3 _ _
      | exact graftbedref01_Elems.mono _ _
      | exact graftbedref01_Valid.mono _ _
      | exact graftbedref01_made.mono _ _ _ _
      | exact LeO.none _
      | refine LeO.ite ?_ ?_
      | refine LeO.bind ?_ (fun _ => ?_)
    · intro y0 y1
      unfold graftbedref01_Module.l1
      repeat' first
      | (with_reducible exact ih0 _ _)
      | (with_reducible exact ih1 _ _ _)
      | (with_reducible exact ih2 _ _)
      | (with_reducible exact ih3 _ _)
      | (with_reducible exact graftbedref01_Elems.mono _ _)
      | (with_reducible exact graftbedref01_Valid.mono _ _)
      | (with_reducible exact graftbedref01_made.mono _ _ _ _)
      | (with_reducible exact LeO.refl _)
      | (with_reducible exact LeO.none _)
      | (with_reducible refine LeO.ite ?_ ?_)
      | (with_reducible refine LeO.bind ?_ (fun _ => ?_))
      | exact ih0 _ _
      | exact ih1 _ _ _
      | exact ih2 _ _
      | exact ih3 _ _
      | exact graftbedref01_Elems.mono _ _
      | exact graftbedref01_Valid.mono _ _
      | exact graftbedref01_made.mono _ _ _ _
      | exact LeO.none _
      | refine LeO.ite ?_ ?_
      | refine LeO.bind ?_ (fun _ => ?_)
theorem graftbedref01_Module.mono : ∀ a0 k, LeO (graftbedref01_Module.f k a0) (graftbedref01_Module.f (k + 1) a0) := by
  intro a0 k
  obtain ⟨ih0, ih1, ih2, ih3⟩ := graftbedref01_Module.mono_l k
  unfold graftbedref01_Module.f
  repeat' first
      | (with_reducible exact ih0 _ _)
      | (with_reducible exact ih1 _ _ _)
      | (with_reducible exact ih2 _ _)
      | (with_reducible exact ih3 _ _)
      | (with_reducible exact graftbedref01_Elems.mono _ _)
      | (with_reducible exact graftbedref01_Valid.mono _ _)
      | (with_reducible exact graftbedref01_made.mono _ _ _ _)
      | (with_reducible exact LeO.refl _)
      | (with_reducible exact LeO.none _)
      | (with_reducible refine LeO.ite ?_ ?_)
      | (with_reducible refine LeO.bind ?_ (fun _ => ?_))
      | exact ih0 _ _
      | exact ih1 _ _ _
      | exact ih2 _ _
      | exact ih3 _ _
      | exact graftbedref01_Elems.mono _ _
      | exact graftbedref01_Valid.mono _ _
      | exact graftbedref01_made.mono _ _ _ _
      | exact LeO.none _
      | refine LeO.ite ?_ ?_
      | refine LeO.bind ?_ (fun _ => ?_)
set_option maxHeartbeats 8000000 in
set_option maxRecDepth 100000 in
theorem graftbedref01_Module.calls (k : Nat) (a0 : ByteArray) (r : Int) (w : World) (h : graftbedref01_Module.f k a0 = some r) :
    Calls Try.prog 11 #[.string a0] w fun e w' => e = .returned (.int .i64 r) ∧ Below w.heap.size w w' := by
  have HB := Aside0.mk (Below.refl w.heap.size w)
  have H : ((graftbedref01_Valid.f k a0).bind fun t122 => (if t122 = true then ((graftbedref01_made.f k a0 false (⟨#[45, 46, 95, 126, 47]⟩ : ByteArray)).bind fun t123 => (graftbedref01_Module.j0 k a0 (!t123))) else (graftbedref01_Module.j0 k a0 true))) = some r := h
  clear h
  have HC2 := Aside0.mk H
  clear H
  go_enter Try.func11, Try.ntmps11
  go_upto_region 1 with (fail)
  repeat (go_quiet (fail); go_upto_region 1 with (fail))
  go_cut [14] (fun v14 wc => ∃ (kq : Nat) (x14_1 : Bool), v14 = .bool x14_1 ∧ Aside0 (graftbedref01_Module.j0 kq a0 x14_1 = some r) ∧ Aside0 (kq ≤ k) ∧ Aside0 (Below w.heap.size w wc))
  case first =>
    have H := HC2.out
    clear HC2
    replace H := Option.bind_eq_some_iff.mp H
    obtain ⟨t122, A30, H⟩ := H
    replace H : (if t122 = true then ((graftbedref01_made.f k a0 false (⟨#[45, 46, 95, 126, 47]⟩ : ByteArray)).bind fun t123 => (graftbedref01_Module.j0 k a0 (!t123))) else (graftbedref01_Module.j0 k a0 true)) = some r := H
    have A3 := Aside0.mk A30
    clear A30
    by_cases c4 : t122 = true
    · subst c4
      have H1 : ((graftbedref01_made.f k a0 false (⟨#[45, 46, 95, 126, 47]⟩ : ByteArray)).bind fun t123 => (graftbedref01_Module.j0 k a0 (!t123))) = some r := by rw [if_pos rfl] at H; exact H
      clear H
      have H := H1
      clear H1
      replace H := Option.bind_eq_some_iff.mp H
      obtain ⟨t123, A50, H⟩ := H
      replace H : (graftbedref01_Module.j0 k a0 (!t123)) = some r := H
      have A5 := Aside0.mk A50
      clear A50
      have H' := Aside0.mk H
      clear H
      go_wp2_with (first | (go_at_call 9; (with_reducible refine (graftbedref01_Valid.calls k a0 true _ A3.out).mono ?_); rintro e w6 ⟨rfl, hb⟩; have n0_ := Aside0.mk (below_step (by repeat (first | (with_reducible first | exact HB.out | apply below_alloc | apply pw_below_drewN | apply below_drew1) | exact HB.out)) hb); clear HB; have HB := n0_; clear n0_; (try clear hb); (try clear hb2); (try clear hk); (try clear hi)) | (go_at_call 23; (with_reducible refine (graftbedref01_made.calls k a0 false (⟨#[45, 46, 95, 126, 47]⟩ : ByteArray) t123 _ A5.out).mono ?_); rintro e w' ⟨rfl, ⟨nd, rfl⟩⟩; (try first | exact ⟨rfl, _, World.drewN_drewN _ _ _⟩ | exact ⟨rfl, _, Eq.trans (World.drewN_drewN _ _ _) (congrArg (World.drewN _) (Nat.add_assoc _ _ _))⟩)))
      repeat (go_quiet (first | (go_at_call 9; (with_reducible refine (graftbedref01_Valid.calls k a0 true _ A3.out).mono ?_); rintro e w6 ⟨rfl, hb⟩; have n0_ := Aside0.mk (below_step (by repeat (first | (with_reducible first | exact HB.out | apply below_alloc | apply pw_below_drewN | apply below_drew1) | exact HB.out)) hb); clear HB; have HB := n0_; clear n0_; (try clear hb); (try clear hb2); (try clear hk); (try clear hi)) | (go_at_call 23; (with_reducible refine (graftbedref01_made.calls k a0 false (⟨#[45, 46, 95, 126, 47]⟩ : ByteArray) t123 _ A5.out).mono ?_); rintro e w' ⟨rfl, ⟨nd, rfl⟩⟩; (try first | exact ⟨rfl, _, World.drewN_drewN _ _ _⟩ | exact ⟨rfl, _, Eq.trans (World.drewN_drewN _ _ _) (congrArg (World.drewN _) (Nat.add_assoc _ _ _))⟩))); try go_wp2_with (first | (go_at_call 9; (with_reducible refine (graftbedref01_Valid.calls k a0 true _ A3.out).mono ?_); rintro e w6 ⟨rfl, hb⟩; have n0_ := Aside0.mk (below_step (by repeat (first | (with_reducible first | exact HB.out | apply below_alloc | apply pw_below_drewN | apply below_drew1) | exact HB.out)) hb); clear HB; have HB := n0_; clear n0_; (try clear hb); (try clear hb2); (try clear hk); (try clear hi)) | (go_at_call 23; (with_reducible refine (graftbedref01_made.calls k a0 false (⟨#[45, 46, 95, 126, 47]⟩ : ByteArray) t123 _ A5.out).mono ?_); rintro e w' ⟨rfl, ⟨nd, rfl⟩⟩; (try first | exact ⟨rfl, _, World.drewN_drewN _ _ _⟩ | exact ⟨rfl, _, Eq.trans (World.drewN_drewN _ _ _) (congrArg (World.drewN _) (Nat.add_assoc _ _ _))⟩))))
      go_meet
      case rel => exact ⟨_, (!t123), (by first | rfl | (simp; done) | (simp [*]; done)), H', ⟨by first | omega | exact Nat.le_refl _⟩, ⟨by repeat (first | (with_reducible first | exact HB.out | apply below_alloc | apply pw_below_drewN | apply below_drew1) | exact HB.out)⟩⟩
    · replace c4 := Bool.eq_false_iff.mpr c4
      subst c4
      have H1 : (graftbedref01_Module.j0 k a0 true) = some r := by rw [if_neg (show ¬ (false = true) by decide)] at H; exact H
      clear H
      have H := H1
      clear H1
      have H' := Aside0.mk H
      clear H
      go_wp2_with (first | (go_at_call 9; (with_reducible refine (graftbedref01_Valid.calls k a0 false _ A3.out).mono ?_); rintro e w7 ⟨rfl, hb⟩; have n0_ := Aside0.mk (below_step (by repeat (first | (with_reducible first | exact HB.out | apply below_alloc | apply pw_below_drewN | apply below_drew1) | exact HB.out)) hb); clear HB; have HB := n0_; clear n0_; (try clear hb); (try clear hb2); (try clear hk); (try clear hi)))
      repeat (go_quiet (first | (go_at_call 9; (with_reducible refine (graftbedref01_Valid.calls k a0 false _ A3.out).mono ?_); rintro e w7 ⟨rfl, hb⟩; have n0_ := Aside0.mk (below_step (by repeat (first | (with_reducible first | exact HB.out | apply below_alloc | apply pw_below_drewN | apply below_drew1) | exact HB.out)) hb); clear HB; have HB := n0_; clear n0_; (try clear hb); (try clear hb2); (try clear hk); (try clear hi))); try go_wp2_with (first | (go_at_call 9; (with_reducible refine (graftbedref01_Valid.calls k a0 false _ A3.out).mono ?_); rintro e w7 ⟨rfl, hb⟩; have n0_ := Aside0.mk (below_step (by repeat (first | (with_reducible first | exact HB.out | apply below_alloc | apply pw_below_drewN | apply below_drew1) | exact HB.out)) hb); clear HB; have HB := n0_; clear n0_; (try clear hb); (try clear hb2); (try clear hk); (try clear hi))))
      go_meet
      case rel => exact ⟨_, (true), (by first | rfl | (simp; done) | (simp [*]; done)), H', ⟨by first | omega | exact Nat.le_refl _⟩, ⟨by repeat (first | (with_reducible first | exact HB.out | apply below_alloc | apply pw_below_drewN | apply below_drew1) | exact HB.out)⟩⟩
  case rest =>
    clear HC2
    try clear c1
    try clear p2
    try clear c4
    obtain ⟨kq, x14_1, rfl, HA, HJ1, HB⟩ := hcut
    cases kq with
    | zero => exact absurd HA.out (by simp [graftbedref01_Module.j0])
    | succ kj1 =>
      have H := HA.out
      clear HA
      simp only [graftbedref01_Module.j0] at H
      by_cases c8 : x14_1 = true
      · subst c8
        have H1 : (some 10) = some r := by rw [if_pos rfl] at H; exact H
        clear H
        have H := H1
        clear H1
        obtain rfl := Option.some.inj H
        go_wp2
        repeat (go_quiet (fail); try go_wp2)
        go_ret
        exact ⟨by first | rfl | (simp [errW_none, errW_some] <;> rfl) | (simp [*, errW_none, errW_some] <;> rfl), by repeat (first | (with_reducible first | exact HB.out | apply below_alloc | apply pw_below_drewN | apply below_drew1) | exact HB.out)⟩
      · replace c8 := Bool.eq_false_iff.mpr c8
        subst c8
        have H1 : ((graftbedref01_Elems.f kj1 a0).bind fun t124 => (graftbedref01_Module.l0 kj1 t124 false 0)) = some r := by rw [if_neg (show ¬ (false = true) by decide)] at H; exact H
        clear H
        have H := H1
        clear H1
        replace H := Option.bind_eq_some_iff.mp H
        obtain ⟨t124, A90, H⟩ := H
        replace H : (graftbedref01_Module.l0 kj1 t124 false 0) = some r := H
        have A9 := Aside0.mk A90
        clear A90
        have H' := Aside0.mk H
        clear H
        go_wp2_with (first | (go_at_call 7; (with_reducible refine (graftbedref01_Elems.calls kj1 a0 t124 _ A9.out).mono ?_); rintro e w10 ⟨v125, rfl, ho0, hb⟩; have n0_ := Aside0.mk (Kd.R_lower ho0 (below_size (by repeat (first | (with_reducible first | exact HB.out | apply below_alloc | apply pw_below_drewN | apply below_drew1) | exact HB.out)))); have n1_ := Aside0.mk (below_step (by repeat (first | (with_reducible first | exact HB.out | apply below_alloc | apply pw_below_drewN | apply below_drew1) | exact HB.out)) hb); clear HB; have HO126 := n0_; have HB := n1_; clear n0_ n1_; (try clear hb); (try clear hb2); (try clear hk); (try clear hi); (try clear ho0)))
        repeat (go_quiet (first | (go_at_call 7; (with_reducible refine (graftbedref01_Elems.calls kj1 a0 t124 _ A9.out).mono ?_); rintro e w10 ⟨v125, rfl, ho0, hb⟩; have n0_ := Aside0.mk (Kd.R_lower ho0 (below_size (by repeat (first | (with_reducible first | exact HB.out | apply below_alloc | apply pw_below_drewN | apply below_drew1) | exact HB.out)))); have n1_ := Aside0.mk (below_step (by repeat (first | (with_reducible first | exact HB.out | apply below_alloc | apply pw_below_drewN | apply below_drew1) | exact HB.out)) hb); clear HB; have HO126 := n0_; have HB := n1_; clear n0_ n1_; (try clear hb); (try clear hb2); (try clear hk); (try clear hi); (try clear ho0))); try go_wp2_with (first | (go_at_call 7; (with_reducible refine (graftbedref01_Elems.calls kj1 a0 t124 _ A9.out).mono ?_); rintro e w10 ⟨v125, rfl, ho0, hb⟩; have n0_ := Aside0.mk (Kd.R_lower ho0 (below_size (by repeat (first | (with_reducible first | exact HB.out | apply below_alloc | apply pw_below_drewN | apply below_drew1) | exact HB.out)))); have n1_ := Aside0.mk (below_step (by repeat (first | (with_reducible first | exact HB.out | apply below_alloc | apply pw_below_drewN | apply below_drew1) | exact HB.out)) hb); clear HB; have HO126 := n0_; have HB := n1_; clear n0_ n1_; (try clear hb); (try clear hb2); (try clear hk); (try clear hi); (try clear ho0))))
        go_loopg [4, 5] kj1 (fun kq v4 v5 w' => ∃ (x4_2 : Bool) (x5_2 : Int), v4 = .bool x4_2 ∧ v5 = .int .i64 x5_2 ∧ Aside0 (graftbedref01_Module.l0 kq t124 x4_2 x5_2 = some r) ∧ Aside0 (kq ≤ kj1) ∧ Aside0 (Kd.R Kd.string 9 w' w.heap.size (fun _ => True) v125 t124) ∧ Aside0 (Below w.heap.size w w'))
        case atStart => exact ⟨(false), (0), (by first | rfl | (simp; done) | (simp [*]; done)), (by first | rfl | (simp; done) | (simp [*]; done)), H', ⟨Nat.le_refl _⟩, ⟨by (with_reducible repeat (first | apply Kd.R_alloc | apply Kd.R_drewN | apply Kd.R_drew)); exact HO126.out⟩, ⟨by repeat (first | (with_reducible first | exact HB.out | apply below_alloc | apply pw_below_drewN | apply below_drew1) | exact HB.out)⟩⟩
        case round =>
          clear H'
          try clear c1
          try clear p2
          try clear c4
          try clear c8
          try clear p2
          obtain ⟨x4_2, x5_2, rfl, rfl, HA, HK2, HO_3, HB⟩ := hrel
          cases gk with
          | zero => exact absurd HA.out (by simp [graftbedref01_Module.l0])
          | succ k2 =>
            have H := HA.out
            clear HA
            simp only [graftbedref01_Module.l0] at H
            by_cases c11 : 0 < (t124.length : Int)
            · rw [if_pos c11] at H
              have c11b0 : decide (0 < (t124.length : Int)) = true := decide_eq_true c11
              have c11b1 : decide (0 < t124.length) = true := decide_eq_true (by omega)
              clear c11
              by_cases c12 : x5_2 < ((rdOf ByteArray.empty t124 0).size : Int)
              · rw [if_pos c12] at H
                have c12b0 : decide (x5_2 < ((rdOf ByteArray.empty t124 0).size : Int)) = true := decide_eq_true c12
                clear c12
                by_cases c13 : x4_2 = true
                · subst c13
                  have H1 : (graftbedref01_Module.l0 k2 t124 true (wrap64 (x5_2 + 1))) = some r := by rw [if_pos rfl] at H; exact H
                  clear H
                  have H := H1
                  clear H1
                  have H' := Aside0.mk H
                  clear H
                  obtain ⟨Ao14, co14, eo14⟩ := Kd.R_slice HO_3.out
                  subst eo14
                  have p127 : 0 ≤ (0 : Int) := (by omega)
                  have q127 : 0 < (t124.length : Int) := of_decide_eq_true (by first | (with_reducible assumption) | assumption)
                  obtain ⟨ad127, e127, hx127_0⟩ := Kd.at_string (Kd.R_reads' HO_3.out).2.2 0 p127 q127
                  cases e127
                  have qi127 : (0 < t124.length) = True := eq_true (by omega)
                  (try rw [show ((0 : Int)).toNat = 0 from rfl] at hx127_0)
                  (try rw [Addr.add_zero'] at hx127_0)
                  replace p127 := eq_true p127
                  replace q127 := eq_true q127
                  go_wp2
                  repeat (go_quiet (fail); try go_wp2)
                  go_roundg k2
                  case measure => have := HJ1.out; have := HK2.out; omega
                  case rel => exact ⟨(true), (wrap64 (x5_2 + 1)), (by first | rfl | (simp; done) | (simp [*]; done)), (by first | rfl | (simp; done) | (simp [*]; done)), H', ⟨by have := HJ1.out; have := HK2.out; omega⟩, ⟨by (with_reducible repeat (first | apply Kd.R_alloc | apply Kd.R_drewN | apply Kd.R_drew)); exact HO_3.out⟩, ⟨by repeat (first | (with_reducible first | exact HB.out | apply below_alloc | apply pw_below_drewN | apply below_drew1) | exact HB.out)⟩⟩
                · replace c13 := Bool.eq_false_iff.mpr c13
                  subst c13
                  have H1 : (if 0 ≤ x5_2 then (graftbedref01_Module.l0 k2 t124 ((bt (rdOf ByteArray.empty t124 0) x5_2) == 46) (wrap64 (x5_2 + 1))) else (none)) = some r := by rw [if_neg (show ¬ (false = true) by decide)] at H; exact H
                  clear H
                  have H := H1
                  clear H1
                  by_cases c15 : 0 ≤ x5_2
                  · rw [if_pos c15] at H
                    have c15b0 : decide (0 ≤ x5_2) = true := decide_eq_true c15
                    clear c15
                    have H' := Aside0.mk H
                    clear H
                    obtain ⟨Ao17, co17, eo17⟩ := Kd.R_slice HO_3.out
                    subst eo17
                    have p127 : 0 ≤ (0 : Int) := (by omega)
                    have q127 : 0 < (t124.length : Int) := of_decide_eq_true (by first | (with_reducible assumption) | assumption)
                    obtain ⟨ad127, e127, hx127_0⟩ := Kd.at_string (Kd.R_reads' HO_3.out).2.2 0 p127 q127
                    cases e127
                    have qi127 : (0 < t124.length) = True := eq_true (by omega)
                    (try rw [show ((0 : Int)).toNat = 0 from rfl] at hx127_0)
                    (try rw [Addr.add_zero'] at hx127_0)
                    replace p127 := eq_true p127
                    replace q127 := eq_true q127
                    have p128 : 0 ≤ (0 : Int) := (by omega)
                    have q128 : 0 < (t124.length : Int) := of_decide_eq_true (by first | (with_reducible assumption) | assumption)
                    obtain ⟨ad128, e128, hx128_0⟩ := Kd.at_string (Kd.R_reads' HO_3.out).2.2 0 p128 q128
                    obtain rfl : ad127 = ad128 := (by injection e128)
                    have qi128 : (0 < t124.length) = True := eq_true (by omega)
                    (try rw [show ((0 : Int)).toNat = 0 from rfl] at hx128_0)
                    (try rw [Addr.add_zero'] at hx128_0)
                    replace p128 := eq_true p128
                    replace q128 := eq_true q128
                    have p16 : 0 ≤ (x5_2 : Int) := of_decide_eq_true (by first | (with_reducible assumption) | assumption)
                    have q16 : x5_2 < ((rdOf ByteArray.empty t124 0).size : Int) := of_decide_eq_true (by first | (with_reducible assumption) | assumption)
                    have hx16 := bt_at (rdOf ByteArray.empty t124 0) x5_2
                    replace p16 := eq_true p16
                    replace q16 := eq_true q16
                    go_wp2
                    repeat (go_quiet (fail); try go_wp2)
                    go_roundg k2
                    case measure => have := HJ1.out; have := HK2.out; omega
                    case rel => exact ⟨(((bt (rdOf ByteArray.empty t124 0) x5_2) == 46)), (wrap64 (x5_2 + 1)), (by first | rfl | (simp; done) | (simp [*]; done)), (by first | rfl | (simp; done) | (simp [*]; done)), H', ⟨by have := HJ1.out; have := HK2.out; omega⟩, ⟨by (with_reducible repeat (first | apply Kd.R_alloc | apply Kd.R_drewN | apply Kd.R_drew)); exact HO_3.out⟩, ⟨by repeat (first | (with_reducible first | exact HB.out | apply below_alloc | apply pw_below_drewN | apply below_drew1) | exact HB.out)⟩⟩
                  · rw [if_neg c15] at H
                    exact absurd H (by simp)
              · rw [if_neg c12] at H
                have c12b0 : decide (x5_2 < ((rdOf ByteArray.empty t124 0).size : Int)) = false := decide_eq_false c12
                clear c12
                have HC18 := Aside0.mk H
                clear H
                obtain ⟨Ao19, co19, eo19⟩ := Kd.R_slice HO_3.out
                subst eo19
                have p127 : 0 ≤ (0 : Int) := (by omega)
                have q127 : 0 < (t124.length : Int) := of_decide_eq_true (by first | (with_reducible assumption) | assumption)
                obtain ⟨ad127, e127, hx127_0⟩ := Kd.at_string (Kd.R_reads' HO_3.out).2.2 0 p127 q127
                cases e127
                have qi127 : (0 < t124.length) = True := eq_true (by omega)
                (try rw [show ((0 : Int)).toNat = 0 from rfl] at hx127_0)
                (try rw [Addr.add_zero'] at hx127_0)
                replace p127 := eq_true p127
                replace q127 := eq_true q127
                go_upto_region 9 with (fail)
                repeat (go_quiet (fail); go_upto_region 9 with (fail))
                go_cut [42] (fun v42 wc => ∃ (kq : Nat) (x42_17 : Bool), v42 = .bool x42_17 ∧ Aside0 (graftbedref01_Module.j2 kq t124 x42_17 = some r) ∧ Aside0 (kq ≤ k2) ∧ Aside0 (Kd.R Kd.string 9 wc w.heap.size (fun _ => True) (.slice (some ad127) t124.length co19) t124) ∧ Aside0 (Below w.heap.size w wc))
                case first =>
                  have H := HC18.out
                  clear HC18
                  by_cases c20 : x4_2 = true
                  · subst c20
                    have H1 : (if 0 < ((rdOf ByteArray.empty t124 0).size : Int) then (graftbedref01_Module.j2 k2 t124 ((bt (rdOf ByteArray.empty t124 0) 0) == 45)) else (none)) = some r := by rw [if_pos rfl] at H; exact H
                    clear H
                    have H := H1
                    clear H1
                    by_cases c21 : 0 < ((rdOf ByteArray.empty t124 0).size : Int)
                    · rw [if_pos c21] at H
                      have c21b0 : decide (0 < ((rdOf ByteArray.empty t124 0).size : Int)) = true := decide_eq_true c21
                      have c21b1 : decide (0 < (rdOf ByteArray.empty t124 0).size) = true := decide_eq_true (by omega)
                      clear c21
                      (first | rw [c21b0] | (simp only [i64_w, i32_w]; rw [c21b0]) | skip)
                      have H' := Aside0.mk H
                      clear H
                      have p129 : 0 ≤ (0 : Int) := (by omega)
                      have q129 : 0 < (t124.length : Int) := of_decide_eq_true (by first | (with_reducible assumption) | assumption)
                      obtain ⟨ad129, e129, hx129_0⟩ := Kd.at_string (Kd.R_reads' HO_3.out).2.2 0 p129 q129
                      obtain rfl : ad127 = ad129 := (by injection e129)
                      have qi129 : (0 < t124.length) = True := eq_true (by omega)
                      (try rw [show ((0 : Int)).toNat = 0 from rfl] at hx129_0)
                      (try rw [Addr.add_zero'] at hx129_0)
                      replace p129 := eq_true p129
                      replace q129 := eq_true q129
                      have p22 : 0 ≤ (0 : Int) := (by omega)
                      have q22 : 0 < (rdOf ByteArray.empty t124 0).size := (by have : (0 : Int) < ((rdOf ByteArray.empty t124 0).size : Int) := of_decide_eq_true (by first | (with_reducible assumption) | assumption); omega)
                      have hx22 : ∀ h : 0 < (rdOf ByteArray.empty t124 0).size, (((rdOf ByteArray.empty t124 0)[0]'h).toNat : Int) = bt (rdOf ByteArray.empty t124 0) 0 := bt_at (rdOf ByteArray.empty t124 0) 0
                      clear p22
                      have qi22 : (0 < ((rdOf ByteArray.empty t124 0).size : Int)) = True := eq_true (of_decide_eq_true (by first | (with_reducible assumption) | assumption))
                      replace q22 := eq_true q22
                      go_wp2
                      repeat (go_quiet (fail); try go_wp2)
                      go_meet
                      case rel => exact ⟨_, (((bt (rdOf ByteArray.empty t124 0) 0) == 45)), (by first | rfl | (simp; done) | (simp [*]; done)), H', ⟨by have := HJ1.out; have := HK2.out; first | omega | exact Nat.le_refl _⟩, ⟨by (with_reducible repeat (first | apply Kd.R_alloc | apply Kd.R_drewN | apply Kd.R_drew)); exact HO_3.out⟩, ⟨by repeat (first | (with_reducible first | exact HB.out | apply below_alloc | apply pw_below_drewN | apply below_drew1) | exact HB.out)⟩⟩
                    · rw [if_neg c21] at H
                      exact absurd H (by simp)
                  · replace c20 := Bool.eq_false_iff.mpr c20
                    subst c20
                    have H1 : (graftbedref01_Module.j2 k2 t124 true) = some r := by rw [if_neg (show ¬ (false = true) by decide)] at H; exact H
                    clear H
                    have H := H1
                    clear H1
                    have H' := Aside0.mk H
                    clear H
                    go_wp2
                    repeat (go_quiet (fail); try go_wp2)
                    go_meet
                    case rel => exact ⟨_, (true), (by first | rfl | (simp; done) | (simp [*]; done)), H', ⟨by have := HJ1.out; have := HK2.out; first | omega | exact Nat.le_refl _⟩, ⟨by (with_reducible repeat (first | apply Kd.R_alloc | apply Kd.R_drewN | apply Kd.R_drew)); exact HO_3.out⟩, ⟨by repeat (first | (with_reducible first | exact HB.out | apply below_alloc | apply pw_below_drewN | apply below_drew1) | exact HB.out)⟩⟩
                case rest =>
                  clear HC18
                  try clear c1
                  try clear p1
                  try clear q1
                  try clear hx1
                  try clear qi1
                  try clear c2
                  try clear p2
                  try clear q2
                  try clear hx2
                  try clear qi2
                  try clear c4
                  try clear p6
                  try clear c8
                  try clear c11
                  try clear c11b0
                  try clear c11b1
                  try clear c12
                  try clear c12b0
                  try clear p12
                  try clear q12
                  try clear hx12
                  try clear qi12
                  try clear c13
                  try clear c15
                  try clear c15b0
                  try clear p16
                  try clear q16
                  try clear hx16
                  try clear c20
                  try clear c21
                  try clear c21b0
                  try clear c21b1
                  try clear p22
                  try clear q22
                  try clear hx22
                  try clear qi22
                  try clear hx127_0
                  try clear hx128_0
                  try clear hx129_0
                  try clear p127
                  try clear p128
                  try clear p129
                  try clear p16
                  try clear p2
                  try clear p22
                  try clear q127
                  try clear q128
                  try clear q129
                  try clear q16
                  try clear q22
                  obtain ⟨kq, x42_17, rfl, HA, HJ17, HO_3, HB⟩ := hcut
                  cases kq with
                  | zero => exact absurd HA.out (by simp [graftbedref01_Module.j2])
                  | succ kj17 =>
                    have H := HA.out
                    clear HA
                    simp only [graftbedref01_Module.j2] at H
                    by_cases c23 : x42_17 = true
                    · subst c23
                      have H1 : (some 10) = some r := by rw [if_pos rfl] at H; exact H
                      clear H
                      have H := H1
                      clear H1
                      obtain rfl := Option.some.inj H
                      go_wp2
                      repeat (go_quiet (fail); try go_wp2)
                      go_ret
                      exact ⟨by first | rfl | (simp [errW_none, errW_some] <;> rfl) | (simp [*, errW_none, errW_some] <;> rfl), by repeat (first | (with_reducible first | exact HB.out | apply below_alloc | apply pw_below_drewN | apply below_drew1) | exact HB.out)⟩
                    · replace c23 := Bool.eq_false_iff.mpr c23
                      subst c23
                      have H1 : (graftbedref01_Module.l1 kj17 t124 0) = some r := by rw [if_neg (show ¬ (false = true) by decide)] at H; exact H
                      clear H
                      have H := H1
                      clear H1
                      have H' := Aside0.mk H
                      clear H
                      go_wp2
                      repeat (go_quiet (fail); try go_wp2)
                      go_loopg [6] kj17 (fun kq v6 w' => ∃ (x6_4 : Int), v6 = .int .i64 x6_4 ∧ Aside0 (graftbedref01_Module.l1 kq t124 x6_4 = some r) ∧ Aside0 (kq ≤ kj17) ∧ Aside0 (Kd.R Kd.string 9 w' w.heap.size (fun _ => True) (.slice (some ad127) t124.length co19) t124) ∧ Aside0 (Below w.heap.size w w'))
                      case atStart => exact ⟨(0), (by first | rfl | (simp; done) | (simp [*]; done)), H', ⟨Nat.le_refl _⟩, ⟨by (with_reducible repeat (first | apply Kd.R_alloc | apply Kd.R_drewN | apply Kd.R_drew)); exact HO_3.out⟩, ⟨by repeat (first | (with_reducible first | exact HB.out | apply below_alloc | apply pw_below_drewN | apply below_drew1) | exact HB.out)⟩⟩
                      case round =>
                        clear H'
                        try clear c1
                        try clear p1
                        try clear q1
                        try clear hx1
                        try clear qi1
                        try clear c2
                        try clear p2
                        try clear q2
                        try clear hx2
                        try clear qi2
                        try clear c4
                        try clear p6
                        try clear c8
                        try clear c11
                        try clear c11b0
                        try clear c11b1
                        try clear c12
                        try clear c12b0
                        try clear p12
                        try clear q12
                        try clear hx12
                        try clear qi12
                        try clear c13
                        try clear c15
                        try clear c15b0
                        try clear p16
                        try clear q16
                        try clear hx16
                        try clear c20
                        try clear c21
                        try clear c21b0
                        try clear c21b1
                        try clear p22
                        try clear q22
                        try clear hx22
                        try clear qi22
                        try clear c23
                        try clear hx127_0
                        try clear hx128_0
                        try clear hx129_0
                        try clear p1
                        try clear p12
                        try clear p127
                        try clear p128
                        try clear p129
                        try clear p16
                        try clear p2
                        try clear p22
                        try clear p6
                        try clear q1
                        try clear q12
                        try clear q127
                        try clear q128
                        try clear q129
                        try clear q16
                        try clear q2
                        try clear q22
                        obtain ⟨x6_4, rfl, HA, HK4, HO_3, HB⟩ := hrel
                        cases gk with
                        | zero => exact absurd HA.out (by simp [graftbedref01_Module.l1])
                        | succ k4 =>
                          have H := HA.out
                          clear HA
                          simp only [graftbedref01_Module.l1] at H
                          by_cases c24 : x6_4 < (t124.length : Int)
                          · rw [if_pos c24] at H
                            have c24b0 : decide (x6_4 < (t124.length : Int)) = true := decide_eq_true c24
                            clear c24
                            by_cases c25 : 0 ≤ x6_4
                            · rw [if_pos c25] at H
                              have c25b0 : decide (0 ≤ x6_4) = true := decide_eq_true c25
                              clear c25
                              by_cases c26 : 0 < ((rdOf ByteArray.empty t124 x6_4).size : Int)
                              · rw [if_pos c26] at H
                                have c26b0 : decide (0 < ((rdOf ByteArray.empty t124 x6_4).size : Int)) = true := decide_eq_true c26
                                have c26b1 : decide (0 < (rdOf ByteArray.empty t124 x6_4).size) = true := decide_eq_true (by omega)
                                clear c26
                                by_cases c28 : (bt (rdOf ByteArray.empty t124 x6_4) 0) = 46
                                · rw [if_pos c28] at H
                                  have c28b0 : ((bt (rdOf ByteArray.empty t124 x6_4) 0) == 46) = true := beq_iff_eq.mpr c28
                                  have c28b1 : ((bt (rdOf ByteArray.empty t124 x6_4) 0) != 46) = false := bne_eq_false_iff_eq.mpr c28
                                  clear c28
                                  obtain rfl := Option.some.inj H
                                  have p130 : 0 ≤ (x6_4 : Int) := of_decide_eq_true (by first | (with_reducible assumption) | assumption)
                                  have q130 : x6_4 < (t124.length : Int) := of_decide_eq_true (by first | (with_reducible assumption) | assumption)
                                  obtain ⟨ad130, e130, hx130_0⟩ := Kd.at_string (Kd.R_reads' HO_3.out).2.2 x6_4 p130 q130
                                  obtain rfl : ad127 = ad130 := (by injection e130)
                                  replace p130 := eq_true p130
                                  replace q130 := eq_true q130
                                  have p27 : 0 ≤ (0 : Int) := (by omega)
                                  have q27 : 0 < (rdOf ByteArray.empty t124 x6_4).size := (by have : (0 : Int) < ((rdOf ByteArray.empty t124 x6_4).size : Int) := of_decide_eq_true (by first | (with_reducible assumption) | assumption); omega)
                                  have hx27 : ∀ h : 0 < (rdOf ByteArray.empty t124 x6_4).size, (((rdOf ByteArray.empty t124 x6_4)[0]'h).toNat : Int) = bt (rdOf ByteArray.empty t124 x6_4) 0 := bt_at (rdOf ByteArray.empty t124 x6_4) 0
                                  clear p27
                                  have qi27 : (0 < ((rdOf ByteArray.empty t124 x6_4).size : Int)) = True := eq_true (of_decide_eq_true (by first | (with_reducible assumption) | assumption))
                                  replace q27 := eq_true q27
                                  go_wp2
                                  repeat (go_quiet (fail); try go_wp2)
                                  go_ret
                                  exact ⟨by first | rfl | (simp [errW_none, errW_some] <;> rfl) | (simp [*, errW_none, errW_some] <;> rfl), by repeat (first | (with_reducible first | exact HB.out | apply below_alloc | apply pw_below_drewN | apply below_drew1) | exact HB.out)⟩
                                · rw [if_neg c28] at H
                                  have c28b0 : ((bt (rdOf ByteArray.empty t124 x6_4) 0) == 46) = false := beq_eq_false_iff_ne.mpr c28
                                  have c28b1 : ((bt (rdOf ByteArray.empty t124 x6_4) 0) != 46) = true := bne_iff_ne.mpr c28
                                  obtain ⟨ji29, hji29⟩ : ∃ j_ : Int, (wrap64 (((rdOf ByteArray.empty t124 x6_4).size : Int) - 1)) = j_ := ⟨_, rfl⟩
                                  replace H : (if 0 ≤ (ji29) then (if (ji29) < ((rdOf ByteArray.empty t124 x6_4).size : Int) then (if (bt (rdOf ByteArray.empty t124 x6_4) (ji29)) = 46 then (some 10) else (graftbedref01_Module.l1 k4 t124 (wrap64 (x6_4 + 1)))) else (none)) else (none)) = some r := by first | (rw [hji29] at H; exact H) | (simp only [hji29] at H ⊢; exact H)
                                  have hji29w : (IntKind.i64.wrap (((rdOf ByteArray.empty t124 x6_4).size : Int) - 1)) = ji29 := (i64_w _).trans hji29
                                  by_cases c30 : 0 ≤ (ji29)
                                  · rw [if_pos c30] at H
                                    have c30b0 : decide (0 ≤ (ji29)) = true := decide_eq_true c30
                                    clear c30
                                    by_cases c31 : (ji29) < ((rdOf ByteArray.empty t124 x6_4).size : Int)
                                    · rw [if_pos c31] at H
                                      have c31b0 : decide ((ji29) < ((rdOf ByteArray.empty t124 x6_4).size : Int)) = true := decide_eq_true c31
                                      clear c31
                                      by_cases c33 : (bt (rdOf ByteArray.empty t124 x6_4) (ji29)) = 46
                                      · rw [if_pos c33] at H
                                        have c33b0 : ((bt (rdOf ByteArray.empty t124 x6_4) (ji29)) == 46) = true := beq_iff_eq.mpr c33
                                        have c33b1 : ((bt (rdOf ByteArray.empty t124 x6_4) (ji29)) != 46) = false := bne_eq_false_iff_eq.mpr c33
                                        clear c33
                                        obtain rfl := Option.some.inj H
                                        have p130 : 0 ≤ (x6_4 : Int) := of_decide_eq_true (by first | (with_reducible assumption) | assumption)
                                        have q130 : x6_4 < (t124.length : Int) := of_decide_eq_true (by first | (with_reducible assumption) | assumption)
                                        obtain ⟨ad130, e130, hx130_0⟩ := Kd.at_string (Kd.R_reads' HO_3.out).2.2 x6_4 p130 q130
                                        obtain rfl : ad127 = ad130 := (by injection e130)
                                        replace p130 := eq_true p130
                                        replace q130 := eq_true q130
                                        have p27 : 0 ≤ (0 : Int) := (by omega)
                                        have q27 : 0 < (rdOf ByteArray.empty t124 x6_4).size := (by have : (0 : Int) < ((rdOf ByteArray.empty t124 x6_4).size : Int) := of_decide_eq_true (by first | (with_reducible assumption) | assumption); omega)
                                        have hx27 : ∀ h : 0 < (rdOf ByteArray.empty t124 x6_4).size, (((rdOf ByteArray.empty t124 x6_4)[0]'h).toNat : Int) = bt (rdOf ByteArray.empty t124 x6_4) 0 := bt_at (rdOf ByteArray.empty t124 x6_4) 0
                                        clear p27
                                        have qi27 : (0 < ((rdOf ByteArray.empty t124 x6_4).size : Int)) = True := eq_true (of_decide_eq_true (by first | (with_reducible assumption) | assumption))
                                        replace q27 := eq_true q27
                                        have p131 : 0 ≤ (x6_4 : Int) := of_decide_eq_true (by first | (with_reducible assumption) | assumption)
                                        have q131 : x6_4 < (t124.length : Int) := of_decide_eq_true (by first | (with_reducible assumption) | assumption)
                                        obtain ⟨ad131, e131, hx131_0⟩ := Kd.at_string (Kd.R_reads' HO_3.out).2.2 x6_4 p131 q131
                                        obtain rfl : ad127 = ad131 := (by injection e131)
                                        replace p131 := eq_true p131
                                        replace q131 := eq_true q131
                                        have p132 : 0 ≤ (x6_4 : Int) := of_decide_eq_true (by first | (with_reducible assumption) | assumption)
                                        have q132 : x6_4 < (t124.length : Int) := of_decide_eq_true (by first | (with_reducible assumption) | assumption)
                                        obtain ⟨ad132, e132, hx132_0⟩ := Kd.at_string (Kd.R_reads' HO_3.out).2.2 x6_4 p132 q132
                                        obtain rfl : ad127 = ad132 := (by injection e132)
                                        replace p132 := eq_true p132
                                        replace q132 := eq_true q132
                                        have p32 : 0 ≤ ((ji29) : Int) := of_decide_eq_true (by first | (with_reducible assumption) | assumption)
                                        have q32 : (ji29) < ((rdOf ByteArray.empty t124 x6_4).size : Int) := of_decide_eq_true (by first | (with_reducible assumption) | assumption)
                                        have hx32 := bt_at (rdOf ByteArray.empty t124 x6_4) (ji29)
                                        replace p32 := eq_true p32
                                        replace q32 := eq_true q32
                                        go_wp2
                                        repeat (go_quiet (fail); try go_wp2)
                                        go_ret
                                        exact ⟨by first | rfl | (simp [errW_none, errW_some] <;> rfl) | (simp only [← hji29]; first | rfl | (simp [errW_none, errW_some] <;> rfl)) | (simp [*, errW_none, errW_some] <;> rfl), by repeat (first | (with_reducible first | exact HB.out | apply below_alloc | apply pw_below_drewN | apply below_drew1) | exact HB.out)⟩
                                      · rw [if_neg c33] at H
                                        have c33b0 : ((bt (rdOf ByteArray.empty t124 x6_4) (ji29)) == 46) = false := beq_eq_false_iff_ne.mpr c33
                                        have c33b1 : ((bt (rdOf ByteArray.empty t124 x6_4) (ji29)) != 46) = true := bne_iff_ne.mpr c33
                                        have H' := Aside0.mk H
                                        clear H
                                        have p130 : 0 ≤ (x6_4 : Int) := of_decide_eq_true (by first | (with_reducible assumption) | assumption)
                                        have q130 : x6_4 < (t124.length : Int) := of_decide_eq_true (by first | (with_reducible assumption) | assumption)
                                        obtain ⟨ad130, e130, hx130_0⟩ := Kd.at_string (Kd.R_reads' HO_3.out).2.2 x6_4 p130 q130
                                        obtain rfl : ad127 = ad130 := (by injection e130)
                                        replace p130 := eq_true p130
                                        replace q130 := eq_true q130
                                        have p27 : 0 ≤ (0 : Int) := (by omega)
                                        have q27 : 0 < (rdOf ByteArray.empty t124 x6_4).size := (by have : (0 : Int) < ((rdOf ByteArray.empty t124 x6_4).size : Int) := of_decide_eq_true (by first | (with_reducible assumption) | assumption); omega)
                                        have hx27 : ∀ h : 0 < (rdOf ByteArray.empty t124 x6_4).size, (((rdOf ByteArray.empty t124 x6_4)[0]'h).toNat : Int) = bt (rdOf ByteArray.empty t124 x6_4) 0 := bt_at (rdOf ByteArray.empty t124 x6_4) 0
                                        clear p27
                                        have qi27 : (0 < ((rdOf ByteArray.empty t124 x6_4).size : Int)) = True := eq_true (of_decide_eq_true (by first | (with_reducible assumption) | assumption))
                                        replace q27 := eq_true q27
                                        have p131 : 0 ≤ (x6_4 : Int) := of_decide_eq_true (by first | (with_reducible assumption) | assumption)
                                        have q131 : x6_4 < (t124.length : Int) := of_decide_eq_true (by first | (with_reducible assumption) | assumption)
                                        obtain ⟨ad131, e131, hx131_0⟩ := Kd.at_string (Kd.R_reads' HO_3.out).2.2 x6_4 p131 q131
                                        obtain rfl : ad127 = ad131 := (by injection e131)
                                        replace p131 := eq_true p131
                                        replace q131 := eq_true q131
                                        have p132 : 0 ≤ (x6_4 : Int) := of_decide_eq_true (by first | (with_reducible assumption) | assumption)
                                        have q132 : x6_4 < (t124.length : Int) := of_decide_eq_true (by first | (with_reducible assumption) | assumption)
                                        obtain ⟨ad132, e132, hx132_0⟩ := Kd.at_string (Kd.R_reads' HO_3.out).2.2 x6_4 p132 q132
                                        obtain rfl : ad127 = ad132 := (by injection e132)
                                        replace p132 := eq_true p132
                                        replace q132 := eq_true q132
                                        have p32 : 0 ≤ ((ji29) : Int) := of_decide_eq_true (by first | (with_reducible assumption) | assumption)
                                        have q32 : (ji29) < ((rdOf ByteArray.empty t124 x6_4).size : Int) := of_decide_eq_true (by first | (with_reducible assumption) | assumption)
                                        have hx32 := bt_at (rdOf ByteArray.empty t124 x6_4) (ji29)
                                        replace p32 := eq_true p32
                                        replace q32 := eq_true q32
                                        go_wp2
                                        repeat (go_quiet (fail); try go_wp2)
                                        go_roundg k4
                                        case measure => have := HJ1.out; have := HK2.out; have := HJ17.out; have := HK4.out; omega
                                        case rel => exact ⟨(wrap64 (x6_4 + 1)), (by first | rfl | (simp; done) | (simp [*]; done)), H', ⟨by have := HJ1.out; have := HK2.out; have := HJ17.out; have := HK4.out; omega⟩, ⟨by (with_reducible repeat (first | apply Kd.R_alloc | apply Kd.R_drewN | apply Kd.R_drew)); exact HO_3.out⟩, ⟨by repeat (first | (with_reducible first | exact HB.out | apply below_alloc | apply pw_below_drewN | apply below_drew1) | exact HB.out)⟩⟩
                                    · rw [if_neg c31] at H
                                      exact absurd H (by simp)
                                  · rw [if_neg c30] at H
                                    exact absurd H (by simp)
                              · rw [if_neg c26] at H
                                exact absurd H (by simp)
                            · rw [if_neg c25] at H
                              exact absurd H (by simp)
                          · rw [if_neg c24] at H
                            have c24b0 : decide (x6_4 < (t124.length : Int)) = false := decide_eq_false c24
                            clear c24
                            obtain rfl := Option.some.inj H
                            go_wp2
                            repeat (go_quiet (fail); try go_wp2)
                            go_ret
                            exact ⟨by first | rfl | (simp [errW_none, errW_some] <;> rfl) | (simp [*, errW_none, errW_some] <;> rfl), by repeat (first | (with_reducible first | exact HB.out | apply below_alloc | apply pw_below_drewN | apply below_drew1) | exact HB.out)⟩
            · rw [if_neg c11] at H
              exact absurd H (by simp)

end Go.Proofs.Ytcfmaeonginefaa.PA
