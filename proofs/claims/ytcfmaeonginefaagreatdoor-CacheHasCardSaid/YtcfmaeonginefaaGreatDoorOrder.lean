/- cmp.Compare at texts, cmp.Or at two numbers, semver.order: what they answer. -/
import Derived.Test.YtcfmaeonginefaaGreatDoorSign
namespace Go.Proofs.YtcfmaeonginefaaGreatDoor.Order
open Go Go.RowKit Go.Shelf Go.Proofs.YtcfmaeonginefaaGreatDoor.Seq Go.Proofs.YtcfmaeonginefaaGreatDoor.Cut Go.Proofs.YtcfmaeonginefaaGreatDoor.Elems Go.Proofs.YtcfmaeonginefaaGreatDoor.Paths Go.Proofs.YtcfmaeonginefaaGreatDoor.Made Go.Proofs.YtcfmaeonginefaaGreatDoor.Idents Go.Proofs.YtcfmaeonginefaaGreatDoor.Sign
attribute [local go_sem] Oper.semAt_some
set_option linter.unusedSimpArgs false
set_option linter.unusedVariables false

theorem nanS (s : ByteArray) (w : World) : Calls Tryz.prog 57 #[.string s] w fun e w' => e = .returned (.bool false) ∧ w = w' := by
  go_enter Tryz.func57, Tryz.ntmps57
  go_wp2
  go_ret
  exact ⟨by simp, rfl⟩
/-- cmp.Compare of two texts. -/
def cmpB (a b : ByteArray) : Int := if Op.bytesLess a.toList b.toList = true then -1 else if (a.toList == b.toList) = true then 0 else 1
theorem compareS (a b : ByteArray) (w : World) : Calls Tryz.prog 30 #[.string a, .string b] w fun e w' => e = .returned (.int .i64 (cmpB a b)) ∧ w = w' := by
  cases h1 : Op.bytesLess a.toList b.toList with
  | true =>
    have e : cmpB a b = -1 := by unfold cmpB; rw [if_pos h1]
    rw [e]
    clear e
    go_enter Tryz.func30, Tryz.ntmps30
    go_wp2_with (go_at_call 57; refine (nanS _ _).mono ?_; rintro e w' ⟨rfl, rfl⟩)
    go_ret
    exact ⟨rfl, rfl⟩
  | false =>
    cases h2 : a.toList == b.toList with
    | false =>
      have e : cmpB a b = 1 := by unfold cmpB; rw [if_neg (by rw [h1]; exact Bool.false_ne_true), if_neg (by rw [h2]; exact Bool.false_ne_true)]
      rw [e]
      clear e
      go_enter Tryz.func30, Tryz.ntmps30
      go_wp2_with (go_at_call 57; refine (nanS _ _).mono ?_; rintro e w' ⟨rfl, rfl⟩)
      go_ret
      exact ⟨rfl, rfl⟩
    | true =>
      have e : cmpB a b = 0 := by unfold cmpB; rw [if_neg (by rw [h1]; exact Bool.false_ne_true), if_pos h2]
      rw [e]
      clear e
      go_enter Tryz.func30, Tryz.ntmps30
      go_wp2_with (go_at_call 57; refine (nanS _ _).mono ?_; rintro e w' ⟨rfl, rfl⟩)
      go_ret
      exact ⟨rfl, rfl⟩

/-- cmp.Or of two numbers. -/
def orB (x y : Int) : Int := if x = 0 then y else x
set_option maxHeartbeats 1000000 in
theorem or2 (x y : Int) (g : Nat) (w : World) (h0 : w.cell? ⟨g, 0, none⟩ = some (.int .i64 x)) (h1 : w.cell? ⟨g, 1, none⟩ = some (.int .i64 y)) :
    Calls Tryz.prog 27 #[.slice (some ⟨g, 0, none⟩) 2 2] w fun e w' => e = .returned (.int .i64 (orB x y)) ∧ w = w' := by
  go_enter Tryz.func27, Tryz.ntmps27
  go_wp2
  go_loop [8] (fun i => i = .int .i64 0 ∨ (i = .int .i64 1 ∧ x = 0) ∨ (i = .int .i64 2 ∧ x = 0 ∧ y = 0)) (fun i => 2 - (intOf i).toNat)
  case atStart => exact .inl rfl
  case round =>
    rcases hrel with rfl | ⟨rfl, hx⟩ | ⟨rfl, hx, hy⟩
    · by_cases hx : x = 0
      · subst hx
        go_wp2
        go_round
        case rel => exact .inr (.inl ⟨by go_num, by simp⟩)
        case measure => simp [intOf]
      · have hx' : (x == 0) = false := by simpa using hx
        go_wp2
        go_ret
        exact ⟨by unfold orB; rw [if_neg hx]; rfl, rfl⟩
    · subst hx
      by_cases hy : y = 0
      · subst hy
        go_wp2
        go_round
        case rel => exact .inr (.inr ⟨by go_num, by simp, by simp⟩)
        case measure => simp [intOf]
      · have hy' : (y == 0) = false := by simpa using hy
        go_wp2
        go_ret
        exact ⟨rfl, rfl⟩
    · subst hx hy
      go_wp2
      go_ret
      exact ⟨rfl, rfl⟩

/-- semver.order. -/
def orderB (a b : ByteArray) : Int :=
  if everyB digitB a = true then (if everyB digitB b = true then orB (Lib.compareInt a.size b.size) (cmpB a b) else -1) else (if everyB digitB b = true then 1 else cmpB a b)
theorem cmpI (x y : Int) (w : World) : Calls Tryz.prog 55 #[.int .i64 x, .int .i64 y] w fun e w' => e = .returned (.int .i64 (Lib.compareInt x y)) ∧ w = w' := (Tryz.cmp_Compare_int x y w).mono fun _ _ h => ⟨h.1, h.2.symm⟩

set_option maxRecDepth 100000 in
set_option maxHeartbeats 1000000 in
theorem order (a b : ByteArray) (ha : a.size ≤ 1048576) (hb : b.size ≤ 1048576) (w : World) : Calls Tryz.prog 91 #[.string a, .string b] w fun e w' => e = .returned (.int .i64 (orderB a b)) ∧ Below w.heap.size w w' := by
  cases h1 : everyB digitB a with
  | true =>
    cases h2 : everyB digitB b with
    | true =>
      have e : orderB a b = orB (Lib.compareInt a.size b.size) (cmpB a b) := by unfold orderB; rw [if_pos h1, if_pos h2]
      rw [e]
      have H1 := Lib.hid h1
      have H2 := Lib.hid h2
      clear e h1 h2
      go_enter Tryz.func91, Tryz.ntmps91
      go_wp2_with (first
        | (go_at_call 87; refine (everyD _ (by assumption) _).mono ?_; (first | rw [H1.out] | rw [H2.out]); rintro e w' ⟨rfl, rfl⟩)
        | (go_at_call 55; refine (cmpI _ _ _).mono ?_; rintro e w' ⟨rfl, rfl⟩)
        | (go_at_call 30; refine (compareS a b _).mono ?_; rintro e w' ⟨rfl, rfl⟩)
        | (go_at_call 27; refine (or2 (Lib.compareInt a.size b.size) (cmpB a b) _ _ ?_ ?_).mono ?_; rotate_left 2; rintro e w' ⟨rfl, rfl⟩))
      · go_ret
        exact ⟨rfl, (Below.refl _ w).alloc (Nat.le_refl _) _⟩
      · simp [go_sem]
      · simp [go_sem]
    | false =>
      have e : orderB a b = -1 := by unfold orderB; rw [if_pos h1, if_neg (by rw [h2]; exact Bool.false_ne_true)]
      rw [e]
      have H1 := Lib.hid h1
      have H2 := Lib.hid h2
      clear e h1 h2
      go_enter Tryz.func91, Tryz.ntmps91
      go_wp2_with (go_at_call 87; refine (everyD _ (by assumption) _).mono ?_; (first | rw [H1.out] | rw [H2.out]); rintro e w' ⟨rfl, rfl⟩)
      go_ret
      exact ⟨rfl, Below.refl _ _⟩
  | false =>
    cases h2 : everyB digitB b with
    | true =>
      have e : orderB a b = 1 := by unfold orderB; rw [if_neg (by rw [h1]; exact Bool.false_ne_true), if_pos h2]
      rw [e]
      have H1 := Lib.hid h1
      have H2 := Lib.hid h2
      clear e h1 h2
      go_enter Tryz.func91, Tryz.ntmps91
      go_wp2_with (go_at_call 87; refine (everyD _ (by assumption) _).mono ?_; (first | rw [H1.out] | rw [H2.out]); rintro e w' ⟨rfl, rfl⟩)
      go_ret
      exact ⟨rfl, Below.refl _ _⟩
    | false =>
      have e : orderB a b = cmpB a b := by unfold orderB; rw [if_neg (by rw [h1]; exact Bool.false_ne_true), if_neg (by rw [h2]; exact Bool.false_ne_true)]
      rw [e]
      have H1 := Lib.hid h1
      have H2 := Lib.hid h2
      clear e h1 h2
      go_enter Tryz.func91, Tryz.ntmps91
      go_wp2_with (first
        | (go_at_call 87; refine (everyD _ (by assumption) _).mono ?_; (first | rw [H1.out] | rw [H2.out]); rintro e w' ⟨rfl, rfl⟩)
        | (go_at_call 30; refine (compareS a b _).mono ?_; rintro e w' ⟨rfl, rfl⟩))
      go_ret
      exact ⟨rfl, Below.refl _ _⟩
end Go.Proofs.YtcfmaeonginefaaGreatDoor.Order
