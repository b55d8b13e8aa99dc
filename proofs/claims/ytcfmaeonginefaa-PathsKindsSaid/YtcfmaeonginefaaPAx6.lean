-- Printed by this session's own program (wip/fprint.py) over the kit's print. Lean checks it.
import Derived.Test.YtcfmaeonginefaaPAx0
import Derived.Test.YtcfmaeonginefaaPAx5
import Derived.Test.YtcfmaeonginefaaFor
namespace Go.Proofs.Ytcfmaeonginefaa.PA
open Go.RowKit Go.Proofs.YtcfmaeonginefaaW.PrintWords Go.Proofs.YtcfmaeonginefaaW.PrintLast Go.Proofs.YtcfmaeonginefaaW.PrintMore
attribute [local go_sem] max2_int min2_int max_two min_two max_three min_three max_four min_four   -- for this text's walks alone
set_option linter.unusedVariables false
set_option linter.unusedSimpArgs false

open Go.Proofs.Ytcfmaeonginefaa.For
/-! ### graftbedlaw01_PathsKinds: function 4 -/
mutual
def graftbedlaw01_PathsKinds.j0 : Nat → ByteArray → Bool → Bool → Option (Bool)
  | 0, _, _, _ => none
  | k + 1, x0, x5, x36 => if x36 = true then (some false) else (if x5 = true then ((paths_Elems.f x0).bind fun t163 => (graftbedlaw01_PathsKinds.l0 k t163 0)) else ((paths_Module.f (⟨#[97, 46, 98, 47, 99]⟩ : ByteArray)).bind fun t172 => (if t172 = 0 then ((paths_Import.f (⟨#[65]⟩ : ByteArray)).bind fun t173 => (if t173 = 0 then ((paths_Module.f (⟨#[97]⟩ : ByteArray)).bind fun t174 => (some (t174 == 10))) else (some false))) else (some false))))
def graftbedlaw01_PathsKinds.l0 : Nat → List ByteArray → Int → Option (Bool)
  | 0, _, _ => none
  | k + 1, x6, x7 => if x7 < (x6.length : Int) then (if 0 ≤ x7 then (if (rdOf ByteArray.empty x6 x7).toList = ([] : List UInt8) then (some false) else (if (rdOf ByteArray.empty x6 x7).toList = ([46] : List UInt8) then (some false) else (if (rdOf ByteArray.empty x6 x7).toList = ([46, 46] : List UInt8) then (some false) else (graftbedlaw01_PathsKinds.l0 k x6 (wrap64 (x7 + 1)))))) else (none)) else (if (x6.length : Int) = 0 then (some false) else ((paths_Module.f (⟨#[97, 46, 98, 47, 99]⟩ : ByteArray)).bind fun t169 => (if t169 = 0 then ((paths_Import.f (⟨#[65]⟩ : ByteArray)).bind fun t170 => (if t170 = 0 then ((paths_Module.f (⟨#[97]⟩ : ByteArray)).bind fun t171 => (some (t171 == 10))) else (some false))) else (some false))))
end
def graftbedlaw01_PathsKinds.f (k : Nat) (a0 : ByteArray) : Option (Bool) := if (a0.size : Int) > 2048 then (some true) else ((paths_Module.f a0).bind fun t156 => ((paths_Import.f a0).bind fun t157 => ((paths_Valid.f a0).bind fun t158 => (if t156 = 0 then (if t158 = true then (if t157 = 0 then ((graftbedref01_Import.f k a0).bind fun t159 => (graftbedlaw01_PathsKinds.j0 k a0 t158 (t157 != t159))) else ((graftbedref01_Import.f k a0).bind fun t160 => (graftbedlaw01_PathsKinds.j0 k a0 t158 (t157 != t160)))) else (graftbedlaw01_PathsKinds.j0 k a0 t158 true)) else (if t157 = 0 then (if t158 = true then ((graftbedref01_Import.f k a0).bind fun t161 => (graftbedlaw01_PathsKinds.j0 k a0 t158 (t157 != t161))) else (graftbedlaw01_PathsKinds.j0 k a0 t158 true)) else ((graftbedref01_Import.f k a0).bind fun t162 => (graftbedlaw01_PathsKinds.j0 k a0 t158 (t157 != t162))))))))
theorem graftbedlaw01_PathsKinds.mono_l : ∀ k, (∀ y0 y1 y2, LeO (graftbedlaw01_PathsKinds.j0 k y0 y1 y2) (graftbedlaw01_PathsKinds.j0 (k + 1) y0 y1 y2)) ∧ (∀ y0 y1, LeO (graftbedlaw01_PathsKinds.l0 k y0 y1) (graftbedlaw01_PathsKinds.l0 (k + 1) y0 y1))
  | 0 => ⟨fun _ _ _ r h => by simp [graftbedlaw01_PathsKinds.j0] at h, fun _ _ r h => by simp [graftbedlaw01_PathsKinds.l0] at h⟩
  | k + 1 => by
    obtain ⟨ih0, ih1⟩ := graftbedlaw01_PathsKinds.mono_l k
    refine ⟨?_, ?_⟩
    · intro y0 y1 y2
      unfold graftbedlaw01_PathsKinds.j0
      repeat' first
      | (with_reducible exact ih0 _ _ _)
      | (with_reducible exact ih1 _ _)
      | (with_reducible exact graftbedref01_Import.mono _ _)
      | (with_reducible exact LeO.refl _)
      | (with_reducible exact LeO.none _)
      | (with_reducible refine LeO.ite ?_ ?_)
      | (with_reducible refine LeO.bind ?_ (fun _ => ?_))
      | exact ih0 _ _ _
      | exact ih1 _ _
      | exact graftbedref01_Import.mono _ _
      | exact LeO.none _
      | refine LeO.ite ?_ ?_
      | refine LeO.bind ?_ (fun _ => ?_)
    · intro y0 y1
      unfold graftbedlaw01_PathsKinds.l0
      repeat' first
      | (with_reducible exact ih0 _ _ _)
      | (with_reducible exact ih1 _ _)
      | (with_reducible exact graftbedref01_Import.mono _ _)
      | (with_reducible exact LeO.refl _)
      | (with_reducible exact LeO.none _)
      | (with_reducible refine LeO.ite ?_ ?_)
      | (with_reducible refine LeO.bind ?_ (fun _ => ?_))
      | exact ih0 _ _ _
      | exact ih1 _ _
      | exact graftbedref01_Import.mono _ _
      | exact LeO.none _
      | refine LeO.ite ?_ ?_
      | refine LeO.bind ?_ (fun _ => ?_)
theorem graftbedlaw01_PathsKinds.mono : ∀ a0 k, LeO (graftbedlaw01_PathsKinds.f k a0) (graftbedlaw01_PathsKinds.f (k + 1) a0) := by
  intro a0 k
  obtain ⟨ih0, ih1⟩ := graftbedlaw01_PathsKinds.mono_l k
  unfold graftbedlaw01_PathsKinds.f
  repeat' first
      | (with_reducible exact ih0 _ _ _)
      | (with_reducible exact ih1 _ _)
      | (with_reducible exact graftbedref01_Import.mono _ _)
      | (with_reducible exact LeO.refl _)
      | (with_reducible exact LeO.none _)
      | (with_reducible refine LeO.ite ?_ ?_)
      | (with_reducible refine LeO.bind ?_ (fun _ => ?_))
      | exact ih0 _ _ _
      | exact ih1 _ _
      | exact graftbedref01_Import.mono _ _
      | exact LeO.none _
      | refine LeO.ite ?_ ?_
      | refine LeO.bind ?_ (fun _ => ?_)
set_option maxHeartbeats 8000000 in
set_option maxRecDepth 100000 in
theorem graftbedlaw01_PathsKinds.calls (k : Nat) (a0 : ByteArray) (r : Bool) (w : World) (h : graftbedlaw01_PathsKinds.f k a0 = some r) :
    Calls Try.prog 4 #[.string a0] w fun e w' => e = .returned (.bool r) ∧ Below w.heap.size w w' := by
  have HB := Aside0.mk (Below.refl w.heap.size w)
  have H : (if (a0.size : Int) > 2048 then (some true) else ((paths_Module.f a0).bind fun t156 => ((paths_Import.f a0).bind fun t157 => ((paths_Valid.f a0).bind fun t158 => (if t156 = 0 then (if t158 = true then (if t157 = 0 then ((graftbedref01_Import.f k a0).bind fun t159 => (graftbedlaw01_PathsKinds.j0 k a0 t158 (t157 != t159))) else ((graftbedref01_Import.f k a0).bind fun t160 => (graftbedlaw01_PathsKinds.j0 k a0 t158 (t157 != t160)))) else (graftbedlaw01_PathsKinds.j0 k a0 t158 true)) else (if t157 = 0 then (if t158 = true then ((graftbedref01_Import.f k a0).bind fun t161 => (graftbedlaw01_PathsKinds.j0 k a0 t158 (t157 != t161))) else (graftbedlaw01_PathsKinds.j0 k a0 t158 true)) else ((graftbedref01_Import.f k a0).bind fun t162 => (graftbedlaw01_PathsKinds.j0 k a0 t158 (t157 != t162))))))))) = some r := h
  clear h
  by_cases c2 : (a0.size : Int) > 2048
  · rw [if_pos c2] at H
    have c2b0 : decide (2048 < (a0.size : Int)) = true := decide_eq_true c2
    have c2b1 : decide (2048 < a0.size) = true := decide_eq_true (by omega)
    clear c2
    obtain rfl := Option.some.inj H
    go_enter Try.func4, Try.ntmps4
    go_wp2
    go_ret
    exact ⟨by first | rfl | (simp [errW_none, errW_some] <;> rfl) | (simp [*, errW_none, errW_some] <;> rfl), by repeat (first | (with_reducible first | exact HB.out | apply below_alloc | apply pw_below_drewN | apply below_drew1) | exact HB.out)⟩
  · rw [if_neg c2] at H
    have c2b0 : decide (2048 < (a0.size : Int)) = false := decide_eq_false c2
    have c2b1 : decide (2048 < a0.size) = false := decide_eq_false (by omega)
    clear c2
    replace H := Option.bind_eq_some_iff.mp H
    obtain ⟨t156, A30, H⟩ := H
    replace H : ((paths_Import.f a0).bind fun t157 => ((paths_Valid.f a0).bind fun t158 => (if t156 = 0 then (if t158 = true then (if t157 = 0 then ((graftbedref01_Import.f k a0).bind fun t159 => (graftbedlaw01_PathsKinds.j0 k a0 t158 (t157 != t159))) else ((graftbedref01_Import.f k a0).bind fun t160 => (graftbedlaw01_PathsKinds.j0 k a0 t158 (t157 != t160)))) else (graftbedlaw01_PathsKinds.j0 k a0 t158 true)) else (if t157 = 0 then (if t158 = true then ((graftbedref01_Import.f k a0).bind fun t161 => (graftbedlaw01_PathsKinds.j0 k a0 t158 (t157 != t161))) else (graftbedlaw01_PathsKinds.j0 k a0 t158 true)) else ((graftbedref01_Import.f k a0).bind fun t162 => (graftbedlaw01_PathsKinds.j0 k a0 t158 (t157 != t162))))))) = some r := H
    have A3 := Aside0.mk A30
    clear A30
    replace H := Option.bind_eq_some_iff.mp H
    obtain ⟨t157, A40, H⟩ := H
    replace H : ((paths_Valid.f a0).bind fun t158 => (if t156 = 0 then (if t158 = true then (if t157 = 0 then ((graftbedref01_Import.f k a0).bind fun t159 => (graftbedlaw01_PathsKinds.j0 k a0 t158 (t157 != t159))) else ((graftbedref01_Import.f k a0).bind fun t160 => (graftbedlaw01_PathsKinds.j0 k a0 t158 (t157 != t160)))) else (graftbedlaw01_PathsKinds.j0 k a0 t158 true)) else (if t157 = 0 then (if t158 = true then ((graftbedref01_Import.f k a0).bind fun t161 => (graftbedlaw01_PathsKinds.j0 k a0 t158 (t157 != t161))) else (graftbedlaw01_PathsKinds.j0 k a0 t158 true)) else ((graftbedref01_Import.f k a0).bind fun t162 => (graftbedlaw01_PathsKinds.j0 k a0 t158 (t157 != t162)))))) = some r := H
    have A4 := Aside0.mk A40
    clear A40
    replace H := Option.bind_eq_some_iff.mp H
    obtain ⟨t158, A50, H⟩ := H
    replace H : (if t156 = 0 then (if t158 = true then (if t157 = 0 then ((graftbedref01_Import.f k a0).bind fun t159 => (graftbedlaw01_PathsKinds.j0 k a0 t158 (t157 != t159))) else ((graftbedref01_Import.f k a0).bind fun t160 => (graftbedlaw01_PathsKinds.j0 k a0 t158 (t157 != t160)))) else (graftbedlaw01_PathsKinds.j0 k a0 t158 true)) else (if t157 = 0 then (if t158 = true then ((graftbedref01_Import.f k a0).bind fun t161 => (graftbedlaw01_PathsKinds.j0 k a0 t158 (t157 != t161))) else (graftbedlaw01_PathsKinds.j0 k a0 t158 true)) else ((graftbedref01_Import.f k a0).bind fun t162 => (graftbedlaw01_PathsKinds.j0 k a0 t158 (t157 != t162))))) = some r := H
    have A5 := Aside0.mk A50
    clear A50
    have HC6 := Aside0.mk H
    clear H
    go_enter Try.func4, Try.ntmps4
    go_upto_region 6 with (first | ((with_reducible refine gate_callee (f := 10) rfl ?_); refine goesL_ (some 12) rfl rfl Try.func10 (by kernel_rfl) rfl #[.string a0] rfl (by (try simp only [List.map_toArray, List.map_cons, List.map_nil]); first | done | rfl | (simp only [List.length_drop, List.length_take]; rfl)) ?_; (with_reducible refine (paths_Module.calls a0 t156 _ A3.out).mono ?_); rintro e w7 ⟨rfl, hb⟩; refine ⟨_, rfl, ?_⟩; have n0_ := Aside0.mk (below_step (by repeat (first | (with_reducible first | exact HB.out | apply below_alloc | apply pw_below_drewN | apply below_drew1) | exact HB.out)) hb); clear HB; have HB := n0_; clear n0_; (try clear hb); (try clear hb2); (try clear hk); (try clear hi)) | ((with_reducible refine gate_callee (f := 12) rfl ?_); refine goesL_ (some 14) rfl rfl Try.func12 (by kernel_rfl) rfl #[.string a0] rfl (by (try simp only [List.map_toArray, List.map_cons, List.map_nil]); first | done | rfl | (simp only [List.length_drop, List.length_take]; rfl)) ?_; (with_reducible refine (paths_Import.calls a0 t157 _ A4.out).mono ?_); rintro e w8 ⟨rfl, hb⟩; refine ⟨_, rfl, ?_⟩; have n0_ := Aside0.mk (below_step (by repeat (first | (with_reducible first | exact HB.out | apply below_alloc | apply pw_below_drewN | apply below_drew1) | exact HB.out)) hb); clear HB; have HB := n0_; clear n0_; (try clear hb); (try clear hb2); (try clear hk); (try clear hi)) | ((with_reducible refine gate_callee (f := 8) rfl ?_); refine goesL_ (some 16) rfl rfl Try.func8 (by kernel_rfl) rfl #[.string a0] rfl (by (try simp only [List.map_toArray, List.map_cons, List.map_nil]); first | done | rfl | (simp only [List.length_drop, List.length_take]; rfl)) ?_; (with_reducible refine (paths_Valid.calls a0 t158 _ A5.out).mono ?_); rintro e w9 ⟨rfl, hb⟩; refine ⟨_, rfl, ?_⟩; have n0_ := Aside0.mk (below_step (by repeat (first | (with_reducible first | exact HB.out | apply below_alloc | apply pw_below_drewN | apply below_drew1) | exact HB.out)) hb); clear HB; have HB := n0_; clear n0_; (try clear hb); (try clear hb2); (try clear hk); (try clear hi)))
    (try simp only [Act.put, List.setIfInBounds_toArray, List.set_cons_zero, List.set_cons_succ])
    go_cut [36] (fun v36 wc => ∃ (kq : Nat) (x36_5 : Bool), v36 = .bool x36_5 ∧ Aside0 (graftbedlaw01_PathsKinds.j0 kq a0 t158 x36_5 = some r) ∧ Aside0 (kq ≤ k) ∧ Aside0 (Below w.heap.size w wc))
    case first =>
      have H := HC6.out
      clear HC6
      by_cases c10 : t156 = 0
      · rw [if_pos c10] at H
        have c10b0 : (t156 == 0) = true := beq_iff_eq.mpr c10
        have c10b1 : (t156 != 0) = false := bne_eq_false_iff_eq.mpr c10
        clear c10
        (first | rw [c10b0] | (simp only [i64_w, i32_w]; rw [c10b0]) | skip)
        by_cases c11 : t158 = true
        · subst c11
          have H1 : (if t157 = 0 then ((graftbedref01_Import.f k a0).bind fun t159 => (graftbedlaw01_PathsKinds.j0 k a0 true (t157 != t159))) else ((graftbedref01_Import.f k a0).bind fun t160 => (graftbedlaw01_PathsKinds.j0 k a0 true (t157 != t160)))) = some r := by rw [if_pos rfl] at H; exact H
          clear H
          have H := H1
          clear H1
          by_cases c12 : t157 = 0
          · rw [if_pos c12] at H
            have c12b0 : (t157 == 0) = true := beq_iff_eq.mpr c12
            have c12b1 : (t157 != 0) = false := bne_eq_false_iff_eq.mpr c12
            clear c12
            replace H := Option.bind_eq_some_iff.mp H
            obtain ⟨t159, A130, H⟩ := H
            replace H : (graftbedlaw01_PathsKinds.j0 k a0 true (t157 != t159)) = some r := H
            have A13 := Aside0.mk A130
            clear A130
            have H' := Aside0.mk H
            clear H
            go_wp2_with (first | (go_at_call 13; (with_reducible refine (graftbedref01_Import.calls k a0 t159 _ A13.out).mono ?_); rintro e w14 ⟨rfl, hb⟩; have n0_ := Aside0.mk (below_step (by repeat (first | (with_reducible first | exact HB.out | apply below_alloc | apply pw_below_drewN | apply below_drew1) | exact HB.out)) hb); clear HB; have HB := n0_; clear n0_; (try clear hb); (try clear hb2); (try clear hk); (try clear hi)))
            go_meet
            case rel => exact ⟨_, ((t157 != t159)), (by first | rfl | (simp; done) | (simp [*]; done)), H', ⟨by first | omega | exact Nat.le_refl _⟩, ⟨by repeat (first | (with_reducible first | exact HB.out | apply below_alloc | apply pw_below_drewN | apply below_drew1) | exact HB.out)⟩⟩
          · rw [if_neg c12] at H
            have c12b0 : (t157 == 0) = false := beq_eq_false_iff_ne.mpr c12
            have c12b1 : (t157 != 0) = true := bne_iff_ne.mpr c12
            replace H := Option.bind_eq_some_iff.mp H
            obtain ⟨t160, A150, H⟩ := H
            replace H : (graftbedlaw01_PathsKinds.j0 k a0 true (t157 != t160)) = some r := H
            have A15 := Aside0.mk A150
            clear A150
            have H' := Aside0.mk H
            clear H
            go_wp2_with (first | (go_at_call 13; (with_reducible refine (graftbedref01_Import.calls k a0 t160 _ A15.out).mono ?_); rintro e w16 ⟨rfl, hb⟩; have n0_ := Aside0.mk (below_step (by repeat (first | (with_reducible first | exact HB.out | apply below_alloc | apply pw_below_drewN | apply below_drew1) | exact HB.out)) hb); clear HB; have HB := n0_; clear n0_; (try clear hb); (try clear hb2); (try clear hk); (try clear hi)))
            go_meet
            case rel => exact ⟨_, ((t157 != t160)), (by first | rfl | (simp; done) | (simp [*]; done)), H', ⟨by first | omega | exact Nat.le_refl _⟩, ⟨by repeat (first | (with_reducible first | exact HB.out | apply below_alloc | apply pw_below_drewN | apply below_drew1) | exact HB.out)⟩⟩
        · replace c11 := Bool.eq_false_iff.mpr c11
          subst c11
          have H1 : (graftbedlaw01_PathsKinds.j0 k a0 false true) = some r := by rw [if_neg (show ¬ (false = true) by decide)] at H; exact H
          clear H
          have H := H1
          clear H1
          have H' := Aside0.mk H
          clear H
          go_wp2
          go_meet
          case rel => exact ⟨_, (true), (by first | rfl | (simp; done) | (simp [*]; done)), H', ⟨by first | omega | exact Nat.le_refl _⟩, ⟨by repeat (first | (with_reducible first | exact HB.out | apply below_alloc | apply pw_below_drewN | apply below_drew1) | exact HB.out)⟩⟩
      · rw [if_neg c10] at H
        have c10b0 : (t156 == 0) = false := beq_eq_false_iff_ne.mpr c10
        have c10b1 : (t156 != 0) = true := bne_iff_ne.mpr c10
        (first | rw [c10b0] | (simp only [i64_w, i32_w]; rw [c10b0]) | skip)
        by_cases c17 : t157 = 0
        · rw [if_pos c17] at H
          have c17b0 : (t157 == 0) = true := beq_iff_eq.mpr c17
          have c17b1 : (t157 != 0) = false := bne_eq_false_iff_eq.mpr c17
          clear c17
          by_cases c18 : t158 = true
          · subst c18
            have H1 : ((graftbedref01_Import.f k a0).bind fun t161 => (graftbedlaw01_PathsKinds.j0 k a0 true (t157 != t161))) = some r := by rw [if_pos rfl] at H; exact H
            clear H
            have H := H1
            clear H1
            replace H := Option.bind_eq_some_iff.mp H
            obtain ⟨t161, A190, H⟩ := H
            replace H : (graftbedlaw01_PathsKinds.j0 k a0 true (t157 != t161)) = some r := H
            have A19 := Aside0.mk A190
            clear A190
            have H' := Aside0.mk H
            clear H
            go_wp2_with (first | (go_at_call 13; (with_reducible refine (graftbedref01_Import.calls k a0 t161 _ A19.out).mono ?_); rintro e w20 ⟨rfl, hb⟩; have n0_ := Aside0.mk (below_step (by repeat (first | (with_reducible first | exact HB.out | apply below_alloc | apply pw_below_drewN | apply below_drew1) | exact HB.out)) hb); clear HB; have HB := n0_; clear n0_; (try clear hb); (try clear hb2); (try clear hk); (try clear hi)))
            go_meet
            case rel => exact ⟨_, ((t157 != t161)), (by first | rfl | (simp; done) | (simp [*]; done)), H', ⟨by first | omega | exact Nat.le_refl _⟩, ⟨by repeat (first | (with_reducible first | exact HB.out | apply below_alloc | apply pw_below_drewN | apply below_drew1) | exact HB.out)⟩⟩
          · replace c18 := Bool.eq_false_iff.mpr c18
            subst c18
            have H1 : (graftbedlaw01_PathsKinds.j0 k a0 false true) = some r := by rw [if_neg (show ¬ (false = true) by decide)] at H; exact H
            clear H
            have H := H1
            clear H1
            have H' := Aside0.mk H
            clear H
            go_wp2
            go_meet
            case rel => exact ⟨_, (true), (by first | rfl | (simp; done) | (simp [*]; done)), H', ⟨by first | omega | exact Nat.le_refl _⟩, ⟨by repeat (first | (with_reducible first | exact HB.out | apply below_alloc | apply pw_below_drewN | apply below_drew1) | exact HB.out)⟩⟩
        · rw [if_neg c17] at H
          have c17b0 : (t157 == 0) = false := beq_eq_false_iff_ne.mpr c17
          have c17b1 : (t157 != 0) = true := bne_iff_ne.mpr c17
          replace H := Option.bind_eq_some_iff.mp H
          obtain ⟨t162, A210, H⟩ := H
          replace H : (graftbedlaw01_PathsKinds.j0 k a0 t158 (t157 != t162)) = some r := H
          have A21 := Aside0.mk A210
          clear A210
          have H' := Aside0.mk H
          clear H
          go_wp2_with (first | (go_at_call 13; (with_reducible refine (graftbedref01_Import.calls k a0 t162 _ A21.out).mono ?_); rintro e w22 ⟨rfl, hb⟩; have n0_ := Aside0.mk (below_step (by repeat (first | (with_reducible first | exact HB.out | apply below_alloc | apply pw_below_drewN | apply below_drew1) | exact HB.out)) hb); clear HB; have HB := n0_; clear n0_; (try clear hb); (try clear hb2); (try clear hk); (try clear hi)))
          go_meet
          case rel => exact ⟨_, ((t157 != t162)), (by first | rfl | (simp; done) | (simp [*]; done)), H', ⟨by first | omega | exact Nat.le_refl _⟩, ⟨by repeat (first | (with_reducible first | exact HB.out | apply below_alloc | apply pw_below_drewN | apply below_drew1) | exact HB.out)⟩⟩
    case rest =>
      clear HC6
      try clear c1
      try clear c2
      try clear c2b0
      try clear c2b1
      try clear p2
      try clear c4
      try clear c8
      try clear c10
      try clear c10b0
      try clear c10b1
      try clear c11
      try clear c12
      try clear c12b0
      try clear c12b1
      try clear c17
      try clear c17b0
      try clear c17b1
      try clear c18
      obtain ⟨kq, x36_5, rfl, HA, HJ5, HB⟩ := hcut
      cases kq with
      | zero => exact absurd HA.out (by simp [graftbedlaw01_PathsKinds.j0])
      | succ kj5 =>
        have H := HA.out
        clear HA
        simp only [graftbedlaw01_PathsKinds.j0] at H
        by_cases c23 : x36_5 = true
        · subst c23
          have H1 : (some false) = some r := by rw [if_pos rfl] at H; exact H
          clear H
          have H := H1
          clear H1
          obtain rfl := Option.some.inj H
          go_wp2
          go_ret
          exact ⟨by first | rfl | (simp [errW_none, errW_some] <;> rfl) | (simp [*, errW_none, errW_some] <;> rfl), by repeat (first | (with_reducible first | exact HB.out | apply below_alloc | apply pw_below_drewN | apply below_drew1) | exact HB.out)⟩
        · replace c23 := Bool.eq_false_iff.mpr c23
          subst c23
          have H1 : (if t158 = true then ((paths_Elems.f a0).bind fun t163 => (graftbedlaw01_PathsKinds.l0 kj5 t163 0)) else ((paths_Module.f (⟨#[97, 46, 98, 47, 99]⟩ : ByteArray)).bind fun t172 => (if t172 = 0 then ((paths_Import.f (⟨#[65]⟩ : ByteArray)).bind fun t173 => (if t173 = 0 then ((paths_Module.f (⟨#[97]⟩ : ByteArray)).bind fun t174 => (some (t174 == 10))) else (some false))) else (some false)))) = some r := by rw [if_neg (show ¬ (false = true) by decide)] at H; exact H
          clear H
          have H := H1
          clear H1
          by_cases c24 : t158 = true
          · subst c24
            have H1 : ((paths_Elems.f a0).bind fun t163 => (graftbedlaw01_PathsKinds.l0 kj5 t163 0)) = some r := by rw [if_pos rfl] at H; exact H
            clear H
            have H := H1
            clear H1
            replace H := Option.bind_eq_some_iff.mp H
            obtain ⟨t163, A250, H⟩ := H
            replace H : (graftbedlaw01_PathsKinds.l0 kj5 t163 0) = some r := H
            have A25 := Aside0.mk A250
            clear A250
            have H' := Aside0.mk H
            clear H
            go_wp2_with (first | ((with_reducible refine gate_callee (f := 6) rfl ?_); refine goesL_ (some 39) rfl rfl Try.func6 (by kernel_rfl) rfl #[.string a0] rfl (by (try simp only [List.map_toArray, List.map_cons, List.map_nil]); first | done | rfl | (simp only [List.length_drop, List.length_take]; rfl)) ?_; (with_reducible refine (paths_Elems.calls a0 t163 _ A25.out).mono ?_); rintro e w26 ⟨v164, rfl, ho0, hb⟩; refine ⟨_, rfl, ?_⟩; have n0_ := Aside0.mk (Kd.R_lower ho0 (below_size (by repeat (first | (with_reducible first | exact HB.out | apply below_alloc | apply pw_below_drewN | apply below_drew1) | exact HB.out)))); have n1_ := Aside0.mk (below_step (by repeat (first | (with_reducible first | exact HB.out | apply below_alloc | apply pw_below_drewN | apply below_drew1) | exact HB.out)) hb); clear HB; have HO165 := n0_; have HB := n1_; clear n0_ n1_; (try clear hb); (try clear hb2); (try clear hk); (try clear hi); (try clear ho0)))
            go_loopg [7] kj5 (fun kq v7 w' => ∃ (x7_2 : Int), v7 = .int .i64 x7_2 ∧ Aside0 (graftbedlaw01_PathsKinds.l0 kq t163 x7_2 = some r) ∧ Aside0 (kq ≤ kj5) ∧ Aside0 (Kd.R Kd.string 9 w' w.heap.size (fun _ => True) v164 t163) ∧ Aside0 (Below w.heap.size w w'))
            case atStart => exact ⟨(0), (by first | rfl | (simp; done) | (simp [*]; done)), H', ⟨Nat.le_refl _⟩, ⟨by (with_reducible repeat (first | apply Kd.R_alloc | apply Kd.R_drewN | apply Kd.R_drew)); exact HO165.out⟩, ⟨by repeat (first | (with_reducible first | exact HB.out | apply below_alloc | apply pw_below_drewN | apply below_drew1) | exact HB.out)⟩⟩
            case round =>
              clear H'
              try clear c1
              try clear c2
              try clear c2b0
              try clear c2b1
              try clear p2
              try clear c4
              try clear c6
              try clear c8
              try clear c10
              try clear c10b0
              try clear c10b1
              try clear c11
              try clear c12
              try clear c12b0
              try clear c12b1
              try clear c17
              try clear c17b0
              try clear c17b1
              try clear c18
              try clear c23
              try clear c24
              try clear p2
              obtain ⟨x7_2, rfl, HA, HK2, HO_6, HB⟩ := hrel
              cases gk with
              | zero => exact absurd HA.out (by simp [graftbedlaw01_PathsKinds.l0])
              | succ k2 =>
                have H := HA.out
                clear HA
                simp only [graftbedlaw01_PathsKinds.l0] at H
                by_cases c27 : x7_2 < (t163.length : Int)
                · rw [if_pos c27] at H
                  have c27b0 : decide (x7_2 < (t163.length : Int)) = true := decide_eq_true c27
                  clear c27
                  by_cases c28 : 0 ≤ x7_2
                  · rw [if_pos c28] at H
                    have c28b0 : decide (0 ≤ x7_2) = true := decide_eq_true c28
                    clear c28
                    by_cases c29 : (rdOf ByteArray.empty t163 x7_2).toList = ([] : List UInt8)
                    · rw [if_pos c29] at H
                      have c29b0 : ((rdOf ByteArray.empty t163 x7_2).toList == ([] : List UInt8)) = true := beq_iff_eq.mpr c29
                      have c29b1 : ((rdOf ByteArray.empty t163 x7_2).toList != ([] : List UInt8)) = false := bne_eq_false_iff_eq.mpr c29
                      clear c29
                      obtain rfl := Option.some.inj H
                      obtain ⟨Ao30, co30, eo30⟩ := Kd.R_slice HO_6.out
                      subst eo30
                      have p166 : 0 ≤ (x7_2 : Int) := of_decide_eq_true (by first | (with_reducible assumption) | assumption)
                      have q166 : x7_2 < (t163.length : Int) := of_decide_eq_true (by first | (with_reducible assumption) | assumption)
                      obtain ⟨ad166, e166, hx166_0⟩ := Kd.at_string (Kd.R_reads' HO_6.out).2.2 x7_2 p166 q166
                      cases e166
                      replace p166 := eq_true p166
                      replace q166 := eq_true q166
                      go_wp2
                      go_ret
                      exact ⟨by first | rfl | (simp [errW_none, errW_some] <;> rfl) | (simp [*, errW_none, errW_some] <;> rfl), by repeat (first | (with_reducible first | exact HB.out | apply below_alloc | apply pw_below_drewN | apply below_drew1) | exact HB.out)⟩
                    · rw [if_neg c29] at H
                      have c29b0 : ((rdOf ByteArray.empty t163 x7_2).toList == ([] : List UInt8)) = false := beq_eq_false_iff_ne.mpr c29
                      have c29b1 : ((rdOf ByteArray.empty t163 x7_2).toList != ([] : List UInt8)) = true := bne_iff_ne.mpr c29
                      by_cases c31 : (rdOf ByteArray.empty t163 x7_2).toList = ([46] : List UInt8)
                      · rw [if_pos c31] at H
                        have c31b0 : ((rdOf ByteArray.empty t163 x7_2).toList == ([46] : List UInt8)) = true := beq_iff_eq.mpr c31
                        have c31b1 : ((rdOf ByteArray.empty t163 x7_2).toList != ([46] : List UInt8)) = false := bne_eq_false_iff_eq.mpr c31
                        clear c31
                        obtain rfl := Option.some.inj H
                        obtain ⟨Ao32, co32, eo32⟩ := Kd.R_slice HO_6.out
                        subst eo32
                        have p166 : 0 ≤ (x7_2 : Int) := of_decide_eq_true (by first | (with_reducible assumption) | assumption)
                        have q166 : x7_2 < (t163.length : Int) := of_decide_eq_true (by first | (with_reducible assumption) | assumption)
                        obtain ⟨ad166, e166, hx166_0⟩ := Kd.at_string (Kd.R_reads' HO_6.out).2.2 x7_2 p166 q166
                        cases e166
                        replace p166 := eq_true p166
                        replace q166 := eq_true q166
                        have p167 : 0 ≤ (x7_2 : Int) := of_decide_eq_true (by first | (with_reducible assumption) | assumption)
                        have q167 : x7_2 < (t163.length : Int) := of_decide_eq_true (by first | (with_reducible assumption) | assumption)
                        obtain ⟨ad167, e167, hx167_0⟩ := Kd.at_string (Kd.R_reads' HO_6.out).2.2 x7_2 p167 q167
                        obtain rfl : ad166 = ad167 := (by injection e167)
                        replace p167 := eq_true p167
                        replace q167 := eq_true q167
                        go_wp2
                        go_ret
                        exact ⟨by first | rfl | (simp [errW_none, errW_some] <;> rfl) | (simp [*, errW_none, errW_some] <;> rfl), by repeat (first | (with_reducible first | exact HB.out | apply below_alloc | apply pw_below_drewN | apply below_drew1) | exact HB.out)⟩
                      · rw [if_neg c31] at H
                        have c31b0 : ((rdOf ByteArray.empty t163 x7_2).toList == ([46] : List UInt8)) = false := beq_eq_false_iff_ne.mpr c31
                        have c31b1 : ((rdOf ByteArray.empty t163 x7_2).toList != ([46] : List UInt8)) = true := bne_iff_ne.mpr c31
                        by_cases c33 : (rdOf ByteArray.empty t163 x7_2).toList = ([46, 46] : List UInt8)
                        · rw [if_pos c33] at H
                          have c33b0 : ((rdOf ByteArray.empty t163 x7_2).toList == ([46, 46] : List UInt8)) = true := beq_iff_eq.mpr c33
                          have c33b1 : ((rdOf ByteArray.empty t163 x7_2).toList != ([46, 46] : List UInt8)) = false := bne_eq_false_iff_eq.mpr c33
                          clear c33
                          obtain rfl := Option.some.inj H
                          obtain ⟨Ao34, co34, eo34⟩ := Kd.R_slice HO_6.out
                          subst eo34
                          have p166 : 0 ≤ (x7_2 : Int) := of_decide_eq_true (by first | (with_reducible assumption) | assumption)
                          have q166 : x7_2 < (t163.length : Int) := of_decide_eq_true (by first | (with_reducible assumption) | assumption)
                          obtain ⟨ad166, e166, hx166_0⟩ := Kd.at_string (Kd.R_reads' HO_6.out).2.2 x7_2 p166 q166
                          cases e166
                          replace p166 := eq_true p166
                          replace q166 := eq_true q166
                          have p167 : 0 ≤ (x7_2 : Int) := of_decide_eq_true (by first | (with_reducible assumption) | assumption)
                          have q167 : x7_2 < (t163.length : Int) := of_decide_eq_true (by first | (with_reducible assumption) | assumption)
                          obtain ⟨ad167, e167, hx167_0⟩ := Kd.at_string (Kd.R_reads' HO_6.out).2.2 x7_2 p167 q167
                          obtain rfl : ad166 = ad167 := (by injection e167)
                          replace p167 := eq_true p167
                          replace q167 := eq_true q167
                          have p168 : 0 ≤ (x7_2 : Int) := of_decide_eq_true (by first | (with_reducible assumption) | assumption)
                          have q168 : x7_2 < (t163.length : Int) := of_decide_eq_true (by first | (with_reducible assumption) | assumption)
                          obtain ⟨ad168, e168, hx168_0⟩ := Kd.at_string (Kd.R_reads' HO_6.out).2.2 x7_2 p168 q168
                          obtain rfl : ad166 = ad168 := (by injection e168)
                          replace p168 := eq_true p168
                          replace q168 := eq_true q168
                          go_wp2
                          go_ret
                          exact ⟨by first | rfl | (simp [errW_none, errW_some] <;> rfl) | (simp [*, errW_none, errW_some] <;> rfl), by repeat (first | (with_reducible first | exact HB.out | apply below_alloc | apply pw_below_drewN | apply below_drew1) | exact HB.out)⟩
                        · rw [if_neg c33] at H
                          have c33b0 : ((rdOf ByteArray.empty t163 x7_2).toList == ([46, 46] : List UInt8)) = false := beq_eq_false_iff_ne.mpr c33
                          have c33b1 : ((rdOf ByteArray.empty t163 x7_2).toList != ([46, 46] : List UInt8)) = true := bne_iff_ne.mpr c33
                          have H' := Aside0.mk H
                          clear H
                          obtain ⟨Ao35, co35, eo35⟩ := Kd.R_slice HO_6.out
                          subst eo35
                          have p166 : 0 ≤ (x7_2 : Int) := of_decide_eq_true (by first | (with_reducible assumption) | assumption)
                          have q166 : x7_2 < (t163.length : Int) := of_decide_eq_true (by first | (with_reducible assumption) | assumption)
                          obtain ⟨ad166, e166, hx166_0⟩ := Kd.at_string (Kd.R_reads' HO_6.out).2.2 x7_2 p166 q166
                          cases e166
                          replace p166 := eq_true p166
                          replace q166 := eq_true q166
                          have p167 : 0 ≤ (x7_2 : Int) := of_decide_eq_true (by first | (with_reducible assumption) | assumption)
                          have q167 : x7_2 < (t163.length : Int) := of_decide_eq_true (by first | (with_reducible assumption) | assumption)
                          obtain ⟨ad167, e167, hx167_0⟩ := Kd.at_string (Kd.R_reads' HO_6.out).2.2 x7_2 p167 q167
                          obtain rfl : ad166 = ad167 := (by injection e167)
                          replace p167 := eq_true p167
                          replace q167 := eq_true q167
                          have p168 : 0 ≤ (x7_2 : Int) := of_decide_eq_true (by first | (with_reducible assumption) | assumption)
                          have q168 : x7_2 < (t163.length : Int) := of_decide_eq_true (by first | (with_reducible assumption) | assumption)
                          obtain ⟨ad168, e168, hx168_0⟩ := Kd.at_string (Kd.R_reads' HO_6.out).2.2 x7_2 p168 q168
                          obtain rfl : ad166 = ad168 := (by injection e168)
                          replace p168 := eq_true p168
                          replace q168 := eq_true q168
                          go_wp2
                          go_roundg k2
                          case measure => have := HJ5.out; have := HK2.out; omega
                          case rel => exact ⟨(wrap64 (x7_2 + 1)), (by first | rfl | (simp; done) | (simp [*]; done)), H', ⟨by have := HJ5.out; have := HK2.out; omega⟩, ⟨by (with_reducible repeat (first | apply Kd.R_alloc | apply Kd.R_drewN | apply Kd.R_drew)); exact HO_6.out⟩, ⟨by repeat (first | (with_reducible first | exact HB.out | apply below_alloc | apply pw_below_drewN | apply below_drew1) | exact HB.out)⟩⟩
                  · rw [if_neg c28] at H
                    exact absurd H (by simp)
                · rw [if_neg c27] at H
                  have c27b0 : decide (x7_2 < (t163.length : Int)) = false := decide_eq_false c27
                  clear c27
                  by_cases c36 : (t163.length : Int) = 0
                  · rw [if_pos c36] at H
                    have c36b0 : ((t163.length : Int) == 0) = true := beq_iff_eq.mpr c36
                    have c36b1 : ((t163.length : Int) != 0) = false := bne_eq_false_iff_eq.mpr c36
                    clear c36
                    obtain rfl := Option.some.inj H
                    obtain ⟨Ao37, co37, eo37⟩ := Kd.R_slice HO_6.out
                    subst eo37
                    go_wp2
                    go_ret
                    exact ⟨by first | rfl | (simp [errW_none, errW_some] <;> rfl) | (simp [*, errW_none, errW_some] <;> rfl), by repeat (first | (with_reducible first | exact HB.out | apply below_alloc | apply pw_below_drewN | apply below_drew1) | exact HB.out)⟩
                  · rw [if_neg c36] at H
                    have c36b0 : ((t163.length : Int) == 0) = false := beq_eq_false_iff_ne.mpr c36
                    have c36b1 : ((t163.length : Int) != 0) = true := bne_iff_ne.mpr c36
                    have c36b2 : ¬ (t163 = []) := fun h_ => c36 (by rw [h_]; rfl)
                    replace H := Option.bind_eq_some_iff.mp H
                    obtain ⟨t169, A380, H⟩ := H
                    replace H : (if t169 = 0 then ((paths_Import.f (⟨#[65]⟩ : ByteArray)).bind fun t170 => (if t170 = 0 then ((paths_Module.f (⟨#[97]⟩ : ByteArray)).bind fun t171 => (some (t171 == 10))) else (some false))) else (some false)) = some r := H
                    have A38 := Aside0.mk A380
                    clear A380
                    by_cases c39 : t169 = 0
                    · rw [if_pos c39] at H
                      have c39b0 : (t169 == 0) = true := beq_iff_eq.mpr c39
                      have c39b1 : (t169 != 0) = false := bne_eq_false_iff_eq.mpr c39
                      clear c39
                      replace H := Option.bind_eq_some_iff.mp H
                      obtain ⟨t170, A400, H⟩ := H
                      replace H : (if t170 = 0 then ((paths_Module.f (⟨#[97]⟩ : ByteArray)).bind fun t171 => (some (t171 == 10))) else (some false)) = some r := H
                      have A40 := Aside0.mk A400
                      clear A400
                      by_cases c41 : t170 = 0
                      · rw [if_pos c41] at H
                        have c41b0 : (t170 == 0) = true := beq_iff_eq.mpr c41
                        have c41b1 : (t170 != 0) = false := bne_eq_false_iff_eq.mpr c41
                        clear c41
                        replace H := Option.bind_eq_some_iff.mp H
                        obtain ⟨t171, A420, H⟩ := H
                        replace H : (some (t171 == 10)) = some r := H
                        have A42 := Aside0.mk A420
                        clear A420
                        obtain rfl := Option.some.inj H
                        obtain ⟨Ao43, co43, eo43⟩ := Kd.R_slice HO_6.out
                        subst eo43
                        go_wp2_with (first | ((with_reducible refine gate_callee (f := 10) rfl ?_); refine goesL_ (some 68) rfl rfl Try.func10 (by kernel_rfl) rfl #[.string (⟨#[97, 46, 98, 47, 99]⟩ : ByteArray)] rfl (by (try simp only [List.map_toArray, List.map_cons, List.map_nil]); first | done | rfl | (simp only [List.length_drop, List.length_take]; rfl)) ?_; (with_reducible refine (paths_Module.calls (⟨#[97, 46, 98, 47, 99]⟩ : ByteArray) t169 _ A38.out).mono ?_); rintro e w44 ⟨rfl, hb⟩; refine ⟨_, rfl, ?_⟩; have n0_ := Aside0.mk (Kd.R_below (by (with_reducible repeat (first | apply Kd.R_alloc | apply Kd.R_drewN | apply Kd.R_drew)); exact HO_6.out) hb); have n1_ := Aside0.mk (below_step (by repeat (first | (with_reducible first | exact HB.out | apply below_alloc | apply pw_below_drewN | apply below_drew1) | exact HB.out)) hb); clear HO_6; clear HB; have HO_6 := n0_; have HB := n1_; clear n0_ n1_; (try clear hb); (try clear hb2); (try clear hk); (try clear hi)) | (go_at_call 12; (with_reducible refine (paths_Import.calls (⟨#[65]⟩ : ByteArray) t170 _ A40.out).mono ?_); rintro e w45 ⟨rfl, hb⟩; have n0_ := Aside0.mk (Kd.R_below (by (with_reducible repeat (first | apply Kd.R_alloc | apply Kd.R_drewN | apply Kd.R_drew)); exact HO_6.out) hb); have n1_ := Aside0.mk (below_step (by repeat (first | (with_reducible first | exact HB.out | apply below_alloc | apply pw_below_drewN | apply below_drew1) | exact HB.out)) hb); clear HO_6; clear HB; have HO_6 := n0_; have HB := n1_; clear n0_ n1_; (try clear hb); (try clear hb2); (try clear hk); (try clear hi)) | (go_at_call 10; (with_reducible refine (paths_Module.calls (⟨#[97]⟩ : ByteArray) t171 _ A42.out).mono ?_); rintro e w46 ⟨rfl, hb⟩; have n0_ := Aside0.mk (Kd.R_below (by (with_reducible repeat (first | apply Kd.R_alloc | apply Kd.R_drewN | apply Kd.R_drew)); exact HO_6.out) hb); have n1_ := Aside0.mk (below_step (by repeat (first | (with_reducible first | exact HB.out | apply below_alloc | apply pw_below_drewN | apply below_drew1) | exact HB.out)) hb); clear HO_6; clear HB; have HO_6 := n0_; have HB := n1_; clear n0_ n1_; (try clear hb); (try clear hb2); (try clear hk); (try clear hi)))
                        go_ret
                        exact ⟨by first | rfl | (simp [errW_none, errW_some] <;> rfl) | (simp [*, errW_none, errW_some] <;> rfl), by repeat (first | (with_reducible first | exact HB.out | apply below_alloc | apply pw_below_drewN | apply below_drew1) | exact HB.out)⟩
                      · rw [if_neg c41] at H
                        have c41b0 : (t170 == 0) = false := beq_eq_false_iff_ne.mpr c41
                        have c41b1 : (t170 != 0) = true := bne_iff_ne.mpr c41
                        obtain rfl := Option.some.inj H
                        obtain ⟨Ao47, co47, eo47⟩ := Kd.R_slice HO_6.out
                        subst eo47
                        go_wp2_with (first | ((with_reducible refine gate_callee (f := 10) rfl ?_); refine goesL_ (some 68) rfl rfl Try.func10 (by kernel_rfl) rfl #[.string (⟨#[97, 46, 98, 47, 99]⟩ : ByteArray)] rfl (by (try simp only [List.map_toArray, List.map_cons, List.map_nil]); first | done | rfl | (simp only [List.length_drop, List.length_take]; rfl)) ?_; (with_reducible refine (paths_Module.calls (⟨#[97, 46, 98, 47, 99]⟩ : ByteArray) t169 _ A38.out).mono ?_); rintro e w48 ⟨rfl, hb⟩; refine ⟨_, rfl, ?_⟩; have n0_ := Aside0.mk (Kd.R_below (by (with_reducible repeat (first | apply Kd.R_alloc | apply Kd.R_drewN | apply Kd.R_drew)); exact HO_6.out) hb); have n1_ := Aside0.mk (below_step (by repeat (first | (with_reducible first | exact HB.out | apply below_alloc | apply pw_below_drewN | apply below_drew1) | exact HB.out)) hb); clear HO_6; clear HB; have HO_6 := n0_; have HB := n1_; clear n0_ n1_; (try clear hb); (try clear hb2); (try clear hk); (try clear hi)) | (go_at_call 12; (with_reducible refine (paths_Import.calls (⟨#[65]⟩ : ByteArray) t170 _ A40.out).mono ?_); rintro e w49 ⟨rfl, hb⟩; have n0_ := Aside0.mk (Kd.R_below (by (with_reducible repeat (first | apply Kd.R_alloc | apply Kd.R_drewN | apply Kd.R_drew)); exact HO_6.out) hb); have n1_ := Aside0.mk (below_step (by repeat (first | (with_reducible first | exact HB.out | apply below_alloc | apply pw_below_drewN | apply below_drew1) | exact HB.out)) hb); clear HO_6; clear HB; have HO_6 := n0_; have HB := n1_; clear n0_ n1_; (try clear hb); (try clear hb2); (try clear hk); (try clear hi)))
                        go_ret
                        exact ⟨by first | rfl | (simp [errW_none, errW_some] <;> rfl) | (simp [*, errW_none, errW_some] <;> rfl), by repeat (first | (with_reducible first | exact HB.out | apply below_alloc | apply pw_below_drewN | apply below_drew1) | exact HB.out)⟩
                    · rw [if_neg c39] at H
                      have c39b0 : (t169 == 0) = false := beq_eq_false_iff_ne.mpr c39
                      have c39b1 : (t169 != 0) = true := bne_iff_ne.mpr c39
                      obtain rfl := Option.some.inj H
                      obtain ⟨Ao50, co50, eo50⟩ := Kd.R_slice HO_6.out
                      subst eo50
                      go_wp2_with (first | ((with_reducible refine gate_callee (f := 10) rfl ?_); refine goesL_ (some 68) rfl rfl Try.func10 (by kernel_rfl) rfl #[.string (⟨#[97, 46, 98, 47, 99]⟩ : ByteArray)] rfl (by (try simp only [List.map_toArray, List.map_cons, List.map_nil]); first | done | rfl | (simp only [List.length_drop, List.length_take]; rfl)) ?_; (with_reducible refine (paths_Module.calls (⟨#[97, 46, 98, 47, 99]⟩ : ByteArray) t169 _ A38.out).mono ?_); rintro e w51 ⟨rfl, hb⟩; refine ⟨_, rfl, ?_⟩; have n0_ := Aside0.mk (Kd.R_below (by (with_reducible repeat (first | apply Kd.R_alloc | apply Kd.R_drewN | apply Kd.R_drew)); exact HO_6.out) hb); have n1_ := Aside0.mk (below_step (by repeat (first | (with_reducible first | exact HB.out | apply below_alloc | apply pw_below_drewN | apply below_drew1) | exact HB.out)) hb); clear HO_6; clear HB; have HO_6 := n0_; have HB := n1_; clear n0_ n1_; (try clear hb); (try clear hb2); (try clear hk); (try clear hi)))
                      go_ret
                      exact ⟨by first | rfl | (simp [errW_none, errW_some] <;> rfl) | (simp [*, errW_none, errW_some] <;> rfl), by repeat (first | (with_reducible first | exact HB.out | apply below_alloc | apply pw_below_drewN | apply below_drew1) | exact HB.out)⟩
          · replace c24 := Bool.eq_false_iff.mpr c24
            subst c24
            have H1 : ((paths_Module.f (⟨#[97, 46, 98, 47, 99]⟩ : ByteArray)).bind fun t172 => (if t172 = 0 then ((paths_Import.f (⟨#[65]⟩ : ByteArray)).bind fun t173 => (if t173 = 0 then ((paths_Module.f (⟨#[97]⟩ : ByteArray)).bind fun t174 => (some (t174 == 10))) else (some false))) else (some false))) = some r := by rw [if_neg (show ¬ (false = true) by decide)] at H; exact H
            clear H
            have H := H1
            clear H1
            replace H := Option.bind_eq_some_iff.mp H
            obtain ⟨t172, A520, H⟩ := H
            replace H : (if t172 = 0 then ((paths_Import.f (⟨#[65]⟩ : ByteArray)).bind fun t173 => (if t173 = 0 then ((paths_Module.f (⟨#[97]⟩ : ByteArray)).bind fun t174 => (some (t174 == 10))) else (some false))) else (some false)) = some r := H
            have A52 := Aside0.mk A520
            clear A520
            by_cases c53 : t172 = 0
            · rw [if_pos c53] at H
              have c53b0 : (t172 == 0) = true := beq_iff_eq.mpr c53
              have c53b1 : (t172 != 0) = false := bne_eq_false_iff_eq.mpr c53
              clear c53
              replace H := Option.bind_eq_some_iff.mp H
              obtain ⟨t173, A540, H⟩ := H
              replace H : (if t173 = 0 then ((paths_Module.f (⟨#[97]⟩ : ByteArray)).bind fun t174 => (some (t174 == 10))) else (some false)) = some r := H
              have A54 := Aside0.mk A540
              clear A540
              by_cases c55 : t173 = 0
              · rw [if_pos c55] at H
                have c55b0 : (t173 == 0) = true := beq_iff_eq.mpr c55
                have c55b1 : (t173 != 0) = false := bne_eq_false_iff_eq.mpr c55
                clear c55
                replace H := Option.bind_eq_some_iff.mp H
                obtain ⟨t174, A560, H⟩ := H
                replace H : (some (t174 == 10)) = some r := H
                have A56 := Aside0.mk A560
                clear A560
                obtain rfl := Option.some.inj H
                go_wp2_with (first | ((with_reducible refine gate_callee (f := 10) rfl ?_); refine goesL_ (some 68) rfl rfl Try.func10 (by kernel_rfl) rfl #[.string (⟨#[97, 46, 98, 47, 99]⟩ : ByteArray)] rfl (by (try simp only [List.map_toArray, List.map_cons, List.map_nil]); first | done | rfl | (simp only [List.length_drop, List.length_take]; rfl)) ?_; (with_reducible refine (paths_Module.calls (⟨#[97, 46, 98, 47, 99]⟩ : ByteArray) t172 _ A52.out).mono ?_); rintro e w57 ⟨rfl, hb⟩; refine ⟨_, rfl, ?_⟩; have n0_ := Aside0.mk (below_step (by repeat (first | (with_reducible first | exact HB.out | apply below_alloc | apply pw_below_drewN | apply below_drew1) | exact HB.out)) hb); clear HB; have HB := n0_; clear n0_; (try clear hb); (try clear hb2); (try clear hk); (try clear hi)) | (go_at_call 12; (with_reducible refine (paths_Import.calls (⟨#[65]⟩ : ByteArray) t173 _ A54.out).mono ?_); rintro e w58 ⟨rfl, hb⟩; have n0_ := Aside0.mk (below_step (by repeat (first | (with_reducible first | exact HB.out | apply below_alloc | apply pw_below_drewN | apply below_drew1) | exact HB.out)) hb); clear HB; have HB := n0_; clear n0_; (try clear hb); (try clear hb2); (try clear hk); (try clear hi)) | (go_at_call 10; (with_reducible refine (paths_Module.calls (⟨#[97]⟩ : ByteArray) t174 _ A56.out).mono ?_); rintro e w59 ⟨rfl, hb⟩; have n0_ := Aside0.mk (below_step (by repeat (first | (with_reducible first | exact HB.out | apply below_alloc | apply pw_below_drewN | apply below_drew1) | exact HB.out)) hb); clear HB; have HB := n0_; clear n0_; (try clear hb); (try clear hb2); (try clear hk); (try clear hi)))
                go_ret
                exact ⟨by first | rfl | (simp [errW_none, errW_some] <;> rfl) | (simp [*, errW_none, errW_some] <;> rfl), by repeat (first | (with_reducible first | exact HB.out | apply below_alloc | apply pw_below_drewN | apply below_drew1) | exact HB.out)⟩
              · rw [if_neg c55] at H
                have c55b0 : (t173 == 0) = false := beq_eq_false_iff_ne.mpr c55
                have c55b1 : (t173 != 0) = true := bne_iff_ne.mpr c55
                obtain rfl := Option.some.inj H
                go_wp2_with (first | ((with_reducible refine gate_callee (f := 10) rfl ?_); refine goesL_ (some 68) rfl rfl Try.func10 (by kernel_rfl) rfl #[.string (⟨#[97, 46, 98, 47, 99]⟩ : ByteArray)] rfl (by (try simp only [List.map_toArray, List.map_cons, List.map_nil]); first | done | rfl | (simp only [List.length_drop, List.length_take]; rfl)) ?_; (with_reducible refine (paths_Module.calls (⟨#[97, 46, 98, 47, 99]⟩ : ByteArray) t172 _ A52.out).mono ?_); rintro e w60 ⟨rfl, hb⟩; refine ⟨_, rfl, ?_⟩; have n0_ := Aside0.mk (below_step (by repeat (first | (with_reducible first | exact HB.out | apply below_alloc | apply pw_below_drewN | apply below_drew1) | exact HB.out)) hb); clear HB; have HB := n0_; clear n0_; (try clear hb); (try clear hb2); (try clear hk); (try clear hi)) | (go_at_call 12; (with_reducible refine (paths_Import.calls (⟨#[65]⟩ : ByteArray) t173 _ A54.out).mono ?_); rintro e w61 ⟨rfl, hb⟩; have n0_ := Aside0.mk (below_step (by repeat (first | (with_reducible first | exact HB.out | apply below_alloc | apply pw_below_drewN | apply below_drew1) | exact HB.out)) hb); clear HB; have HB := n0_; clear n0_; (try clear hb); (try clear hb2); (try clear hk); (try clear hi)))
                go_ret
                exact ⟨by first | rfl | (simp [errW_none, errW_some] <;> rfl) | (simp [*, errW_none, errW_some] <;> rfl), by repeat (first | (with_reducible first | exact HB.out | apply below_alloc | apply pw_below_drewN | apply below_drew1) | exact HB.out)⟩
            · rw [if_neg c53] at H
              have c53b0 : (t172 == 0) = false := beq_eq_false_iff_ne.mpr c53
              have c53b1 : (t172 != 0) = true := bne_iff_ne.mpr c53
              obtain rfl := Option.some.inj H
              go_wp2_with (first | ((with_reducible refine gate_callee (f := 10) rfl ?_); refine goesL_ (some 68) rfl rfl Try.func10 (by kernel_rfl) rfl #[.string (⟨#[97, 46, 98, 47, 99]⟩ : ByteArray)] rfl (by (try simp only [List.map_toArray, List.map_cons, List.map_nil]); first | done | rfl | (simp only [List.length_drop, List.length_take]; rfl)) ?_; (with_reducible refine (paths_Module.calls (⟨#[97, 46, 98, 47, 99]⟩ : ByteArray) t172 _ A52.out).mono ?_); rintro e w62 ⟨rfl, hb⟩; refine ⟨_, rfl, ?_⟩; have n0_ := Aside0.mk (below_step (by repeat (first | (with_reducible first | exact HB.out | apply below_alloc | apply pw_below_drewN | apply below_drew1) | exact HB.out)) hb); clear HB; have HB := n0_; clear n0_; (try clear hb); (try clear hb2); (try clear hk); (try clear hi)))
              go_ret
              exact ⟨by first | rfl | (simp [errW_none, errW_some] <;> rfl) | (simp [*, errW_none, errW_some] <;> rfl), by repeat (first | (with_reducible first | exact HB.out | apply below_alloc | apply pw_below_drewN | apply below_drew1) | exact HB.out)⟩

/-- THE ONE PURE STATEMENT of graftbedlaw01_PathsKinds: yours. -/
def graftbedlaw01_PathsKinds.Pure : Prop := ∀ (a0 : ByteArray), a0.size ≤ 140737488351232 → ∃ k, graftbedlaw01_PathsKinds.f k a0 = some true
theorem graftbedlaw01_PathsKinds.walk (P : graftbedlaw01_PathsKinds.Pure) (a0 : ByteArray) (w : World) (w0 : a0.size ≤ 140737488351232) :
    Calls Try.prog 4 #[.string a0] w fun e w' => e = .returned (.bool true) ∧ Below w.heap.size w w' := by
  obtain ⟨k, h⟩ := P a0 w0
  refine (graftbedlaw01_PathsKinds.calls k a0 true w h).mono ?_
  rintro e w' ⟨rfl, hd⟩
  exact ⟨rfl, hd⟩

end Go.Proofs.Ytcfmaeonginefaa.PA
