/- cache.Known, graftbedref07.Known, graftbedlaw07.shown: what they answer. -/
import Derived.Test.YtcfmaeonginefaaGreatDoorFits
import Derived.Test.YtcfmaeonginefaaGreatDoorModule1
import Derived.Test.YtcfmaeonginefaaGreatDoorAt7
import Derived.Test.YtcfmaeonginefaaGreatDoorOrder7
namespace Go.Proofs.YtcfmaeonginefaaGreatDoor.Known
open Go Go.RowKit Go.Shelf Go.Proofs.YtcfmaeonginefaaGreatDoor.Seq Go.Proofs.YtcfmaeonginefaaGreatDoor.Cut Go.Proofs.YtcfmaeonginefaaGreatDoor.Elems Go.Proofs.YtcfmaeonginefaaGreatDoor.Paths Go.Proofs.YtcfmaeonginefaaGreatDoor.Made Go.Proofs.YtcfmaeonginefaaGreatDoor.Module Go.Proofs.YtcfmaeonginefaaGreatDoor.Parse Go.Proofs.YtcfmaeonginefaaGreatDoor.Order3 Go.Proofs.YtcfmaeonginefaaGreatDoor.Canon3 Go.Proofs.YtcfmaeonginefaaGreatDoor.Compare Go.Proofs.YtcfmaeonginefaaGreatDoor.Module1 Go.Proofs.YtcfmaeonginefaaGreatDoor.Local Go.Proofs.YtcfmaeonginefaaGreatDoor.Fits Go.Proofs.YtcfmaeonginefaaGreatDoor.At7 Go.Proofs.YtcfmaeonginefaaGreatDoor.Order7
set_option linter.unusedSimpArgs false
set_option linter.unusedVariables false

/-- What is wrong with a module. -/
def knownB (p v : ByteArray) : Int :=
  if v.toList.isEmpty = true then (if localB p = true then 0 else 10)
  else if moduleB p = true then (if ((canonB v).toList == v.toList) = true then fitsB p v else 30) else 10
/-- A module in its box. -/
def M2 (w : World) (p v : ByteArray) (W : World) : Prop := W.cell? ⟨w.heap.size, 0, none⟩ = some (.string p) ∧ W.cell? ⟨w.heap.size, 1, none⟩ = some (.string v) ∧ Below w.heap.size w W ∧ w.heap.size < W.heap.size
theorem m2_new (w : World) (p v : ByteArray) (t : TypeId) : M2 w p v (w.alloc (.cells #[.string p, .string v] t)) := by
  have g := cells2 (V := (w.alloc (.cells #[.string p, .string v] t))) (World.alloc_heap_new w _)
  exact ⟨g.1, g.2, (Below.refl _ w).alloc (Nat.le_refl _) _, by simp⟩
theorem m2_keep {w W W' : World} {p v : ByteArray} (h : M2 w p v W) (hb : Below W.heap.size W W') : M2 w p v W' := by
  obtain ⟨c0, c1, hB, h2⟩ := h
  exact ⟨cellB hb h2 c0, cellB hb h2 c1, hB.trans (hb.mono hB.size), by have := hb.size; omega⟩
theorem m2_drew {w W : World} {p v : ByteArray} (h : M2 w p v W) : M2 w p v W.drew := m2_keep h (pw_drewN (Below.refl _ _) 1)

set_option maxRecDepth 100000 in
set_option maxHeartbeats 8000000 in
theorem known (p v : ByteArray) (hp : p.size ≤ 1048576) (hv : v.size ≤ 1048576) (w : World) : Calls Tryz.prog 12 #[.agg #[.string p, .string v]] w fun e w' => e = .returned (.int .i64 (knownB p v)) ∧ Below w.heap.size w w' := by
  have h0 := m2_new w p v 23
  obtain ⟨m, hm⟩ : ∃ m, moduleB p = m := ⟨_, rfl⟩
  have HM := Lib.hid hm
  cases hve : v.toList.isEmpty with
  | true =>
    cases hl : localB p with
    | true =>
      have HR := Lib.hid (show knownB p v = 0 by unfold knownB; rw [if_pos hve, if_pos hl])
      have HL := Lib.hid hl
      clear hl hm
      cases m
      all_goals
        go_enter Tryz.func12, Tryz.ntmps12
        go_wp2_with (first
          | (exfalso; rename_i hu _; simp [undef] at hu; done)
          | (go_at_call 31; refine (Module.Module p hp _).mono ?_; rw [HM.out]; rintro e w1 ⟨rfl, hb1⟩; have k1 := m2_keep h0 hb1; obtain ⟨c0, c1, hbw, hsz⟩ := id k1)
          | (go_at_call 32; refine (local_ p hp _).mono ?_; rw [HL.out]; rintro e w2 ⟨rfl, hb2⟩; have k2 := m2_keep k1 hb2; obtain ⟨d0, d1, hbx, hsx⟩ := id k2))
        go_ret
        exact ⟨ret_num HR.out.symm, hbx⟩
    | false =>
      have HR := Lib.hid (show knownB p v = 10 by unfold knownB; rw [if_pos hve, if_neg (by rw [hl]; exact Bool.false_ne_true)])
      have HL := Lib.hid hl
      clear hl hm
      cases m
      all_goals
        go_enter Tryz.func12, Tryz.ntmps12
        go_wp2_with (first
          | (exfalso; rename_i hu _; simp [undef] at hu; done)
          | (go_at_call 31; refine (Module.Module p hp _).mono ?_; rw [HM.out]; rintro e w1 ⟨rfl, hb1⟩; have k1 := m2_keep h0 hb1; obtain ⟨c0, c1, hbw, hsz⟩ := id k1)
          | (go_at_call 32; refine (local_ p hp _).mono ?_; rw [HL.out]; rintro e w2 ⟨rfl, hb2⟩; have k2 := m2_keep k1 hb2; obtain ⟨d0, d1, hbx, hsx⟩ := id k2))
        go_ret
        exact ⟨ret_num HR.out.symm, hbx⟩
  | false =>
  cases m with
  | false =>
    have HR := Lib.hid (show knownB p v = 10 by unfold knownB; rw [if_neg (by rw [hve]; exact Bool.false_ne_true), if_neg (by rw [hm]; exact Bool.false_ne_true)])
    have hE : (errB false != 0) = true := by decide
    clear hm
    go_enter Tryz.func12, Tryz.ntmps12
    go_wp2_with (first
      | (exfalso; rename_i hu _; simp [undef] at hu; done)
      | (go_at_call 31; refine (Module.Module p hp _).mono ?_; rw [HM.out]; rintro e w1 ⟨rfl, hb1⟩; have k1 := m2_keep h0 hb1; obtain ⟨c0, c1, hbw, hsz⟩ := id k1))
    go_ret
    exact ⟨ret_num HR.out.symm, hbw⟩
  | true =>
  have hE : (errB true != 0) = false := by decide
  obtain ⟨cv, hcv⟩ : ∃ c, canonB v = c := ⟨_, rfl⟩
  have HC := Lib.hid hcv
  cases hc : cv.toList == v.toList with
  | false =>
    have HR := Lib.hid (show knownB p v = 30 by unfold knownB; rw [if_neg (by rw [hve]; exact Bool.false_ne_true), if_pos hm, hcv, if_neg (by rw [hc]; exact Bool.false_ne_true)])
    clear hm hcv
    go_enter Tryz.func12, Tryz.ntmps12
    go_wp2_with (first
      | (exfalso; rename_i hu _; simp [undef] at hu; done)
      | (go_at_call 31; refine (Module.Module p hp _).mono ?_; rw [HM.out]; rintro e w1 ⟨rfl, hb1⟩; have k1 := m2_keep h0 hb1; obtain ⟨c0, c1, hbw, hsz⟩ := id k1))
    have k1d := m2_drew k1
    go_region_held3 (fun w' => w'.cell? ⟨w.heap.size, 0, none⟩ = some (.string p) ∧ w'.cell? ⟨w.heap.size, 1, none⟩ = some (.string v) ∧ Below w.heap.size w w' ∧ w.heap.size < w'.heap.size)
      (first
        | assumption
        | exact m2_keep ‹_› hb2
        | exact k1d)
      (first | (go_at_call 33; refine (canonical v hv _).mono ?_; rw [HC.out]; rintro e2 w2 ⟨rfl, hb2⟩))
    have k2 := m2_keep k1d hb2
    obtain ⟨d0, d1, hbx, hsx⟩ := id k2
    go_wp2_with (first | (exfalso; rename_i hu _; simp [undef] at hu; done))
    go_ret
    exact ⟨ret_num HR.out.symm, hbx⟩
  | true =>
    have HR := Lib.hid (show knownB p v = fitsB p v by unfold knownB; rw [if_neg (by rw [hve]; exact Bool.false_ne_true), if_pos hm, hcv, if_pos hc])
    clear hm hcv
    go_enter Tryz.func12, Tryz.ntmps12
    go_wp2_with (first
      | (exfalso; rename_i hu _; simp [undef] at hu; done)
      | (go_at_call 31; refine (Module.Module p hp _).mono ?_; rw [HM.out]; rintro e w1 ⟨rfl, hb1⟩; have k1 := m2_keep h0 hb1; obtain ⟨c0, c1, hbw, hsz⟩ := id k1))
    have k1d := m2_drew k1
    go_region_held3 (fun w' => w'.cell? ⟨w.heap.size, 0, none⟩ = some (.string p) ∧ w'.cell? ⟨w.heap.size, 1, none⟩ = some (.string v) ∧ Below w.heap.size w w' ∧ w.heap.size < w'.heap.size)
      (first
        | assumption
        | exact m2_keep ‹_› hb2
        | exact k1d)
      (first | (go_at_call 33; refine (canonical v hv _).mono ?_; rw [HC.out]; rintro e2 w2 ⟨rfl, hb2⟩))
    have k2 := m2_keep k1d hb2
    obtain ⟨d0, d1, hbx, hsx⟩ := id k2
    go_wp2_with (first
      | (exfalso; rename_i hu _; simp [undef] at hu; done)
      | (go_at_call 34; refine (fits p v hp hv _).mono ?_; rintro e3 w3 ⟨rfl, hb3⟩))
    go_ret
    exact ⟨ret_num HR.out.symm, hbx.trans (hb3.mono hbx.size)⟩
set_option maxRecDepth 100000 in
set_option maxHeartbeats 8000000 in
theorem known7 (p v : ByteArray) (hp : p.size ≤ 1048576) (hv : v.size ≤ 1048576) (w : World) : Calls Tryz.prog 13 #[.agg #[.string p, .string v]] w fun e w' => e = .returned (.int .i64 (knownB p v)) ∧ Below w.heap.size w w' := by
  have h0 := m2_new w p v 23
  obtain ⟨m, hm⟩ : ∃ m, moduleB p = m := ⟨_, rfl⟩
  have HM := Lib.hid hm
  cases hve : v.toList.isEmpty with
  | true =>
    obtain ⟨l, hl⟩ : ∃ l, localB p = l := ⟨_, rfl⟩
    have HL := Lib.hid hl
    have HR := Lib.hid (show knownB p v = (if l = true then 0 else 10) by unfold knownB; rw [if_pos hve, hl])
    clear hl hm
    cases l
    all_goals
      go_enter Tryz.func13, Tryz.ntmps13
      go_wp2_with (first
        | (exfalso; rename_i hu _; simp [undef] at hu; done)
        | (go_at_call 35; refine (local5 p hp _).mono ?_; rw [HL.out]; rintro e w2 ⟨rfl, hb2⟩; have k2 := m2_keep h0 hb2; obtain ⟨d0, d1, hbx, hsx⟩ := id k2))
      go_ret
      exact ⟨ret_num HR.out.symm, hbx⟩
  | false =>
  cases m with
  | false =>
    have HR := Lib.hid (show knownB p v = 10 by unfold knownB; rw [if_neg (by rw [hve]; exact Bool.false_ne_true), if_neg (by rw [hm]; exact Bool.false_ne_true)])
    have hE : errB false = 10 := rfl
    rw [hE] at *
    clear hm
    go_enter Tryz.func13, Tryz.ntmps13
    go_wp2_with (first
      | (exfalso; rename_i hu _; simp [undef] at hu; done)
      | (go_at_call 36; refine (module01 p hp _).mono ?_; rw [HM.out]; rw [errB_no rfl]; rintro e w1 ⟨rfl, hb1⟩; have k1 := m2_keep h0 hb1; obtain ⟨c0, c1, hbw, hsz⟩ := id k1))
    go_quiet (fail)
    go_wp2_with (first | (exfalso; rename_i hu _; simp [undef] at hu; done))
    go_ret
    exact ⟨ret_num HR.out.symm, pw_drewN hbw _⟩
  | true =>
  obtain ⟨cv, hcv⟩ : ∃ c, canonB v = c := ⟨_, rfl⟩
  have HC := Lib.hid hcv
  cases hc : cv.toList == v.toList with
  | false =>
    have HR := Lib.hid (show knownB p v = 30 by unfold knownB; rw [if_neg (by rw [hve]; exact Bool.false_ne_true), if_pos hm, hcv, if_neg (by rw [hc]; exact Bool.false_ne_true)])
    clear hm hcv
    go_enter Tryz.func13, Tryz.ntmps13
    go_wp2_with (first
      | (exfalso; rename_i hu _; simp [undef] at hu; done)
      | (go_at_call 36; refine (module01 p hp _).mono ?_; rw [HM.out]; rw [errB_yes rfl]; rintro e w1 ⟨rfl, hb1⟩; have k1 := m2_keep h0 hb1; obtain ⟨c0, c1, hbw, hsz⟩ := id k1))
    have k1d := m2_drew k1
    go_region_held3 (fun w' => w'.cell? ⟨w.heap.size, 0, none⟩ = some (.string p) ∧ w'.cell? ⟨w.heap.size, 1, none⟩ = some (.string v) ∧ Below w.heap.size w w' ∧ w.heap.size < w'.heap.size)
      (first
        | assumption
        | exact m2_keep ‹_› hb2
        | exact k1d)
      (first | (go_at_call 37; refine (canonical3 v hv _).mono ?_; rw [HC.out]; rintro e2 w2 ⟨rfl, hb2⟩))
    have k2 := m2_keep k1d hb2
    obtain ⟨d0, d1, hbx, hsx⟩ := id k2
    go_wp2_with (first | (exfalso; rename_i hu _; simp [undef] at hu; done))
    go_ret
    exact ⟨ret_num HR.out.symm, hbx⟩
  | true =>
    have HR := Lib.hid (show knownB p v = fitsB p v by unfold knownB; rw [if_neg (by rw [hve]; exact Bool.false_ne_true), if_pos hm, hcv, if_pos hc])
    clear hm hcv
    go_enter Tryz.func13, Tryz.ntmps13
    go_wp2_with (first
      | (exfalso; rename_i hu _; simp [undef] at hu; done)
      | (go_at_call 36; refine (module01 p hp _).mono ?_; rw [HM.out]; rw [errB_yes rfl]; rintro e w1 ⟨rfl, hb1⟩; have k1 := m2_keep h0 hb1; obtain ⟨c0, c1, hbw, hsz⟩ := id k1))
    have k1d := m2_drew k1
    go_region_held3 (fun w' => w'.cell? ⟨w.heap.size, 0, none⟩ = some (.string p) ∧ w'.cell? ⟨w.heap.size, 1, none⟩ = some (.string v) ∧ Below w.heap.size w w' ∧ w.heap.size < w'.heap.size)
      (first
        | assumption
        | exact m2_keep ‹_› hb2
        | exact k1d)
      (first | (go_at_call 37; refine (canonical3 v hv _).mono ?_; rw [HC.out]; rintro e2 w2 ⟨rfl, hb2⟩))
    have k2 := m2_keep k1d hb2
    obtain ⟨d0, d1, hbx, hsx⟩ := id k2
    go_wp2_with (first
      | (exfalso; rename_i hu _; simp [undef] at hu; done)
      | (go_at_call 38; refine (fits3 p v hp hv _).mono ?_; rintro e3 w3 ⟨rfl, hb3⟩))
    go_ret
    exact ⟨ret_num HR.out.symm, hbx.trans (hb3.mono hbx.size)⟩
end Go.Proofs.YtcfmaeonginefaaGreatDoor.Known
