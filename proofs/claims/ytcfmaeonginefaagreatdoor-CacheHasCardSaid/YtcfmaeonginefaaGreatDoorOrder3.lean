/- graftbedref03: less, order: what they answer. -/
import Derived.Test.YtcfmaeonginefaaGreatDoorIdents3
import Derived.Test.YtcfmaeonginefaaGreatDoorOrderPre
namespace Go.Proofs.YtcfmaeonginefaaGreatDoor.Order3
open Go Go.RowKit Go.Shelf Go.Proofs.YtcfmaeonginefaaGreatDoor.Seq Go.Proofs.YtcfmaeonginefaaGreatDoor.Cut Go.Proofs.YtcfmaeonginefaaGreatDoor.Elems Go.Proofs.YtcfmaeonginefaaGreatDoor.Paths Go.Proofs.YtcfmaeonginefaaGreatDoor.Made Go.Proofs.YtcfmaeonginefaaGreatDoor.Idents Go.Proofs.YtcfmaeonginefaaGreatDoor.Sign Go.Proofs.YtcfmaeonginefaaGreatDoor.Order Go.Proofs.YtcfmaeonginefaaGreatDoor.Num3
set_option linter.unusedSimpArgs false
set_option linter.unusedVariables false

theorem bl_irr : ∀ a : List UInt8, Op.bytesLess a a = false
  | [] => rfl
  | a :: x => by
    show (decide (a < a) || (a == a && Op.bytesLess x x)) = false
    rw [bl_irr x]
    simp
theorem bl_tri : ∀ a b : List UInt8, Op.bytesLess a b = false → Op.bytesLess b a = false → a = b
  | [], [], _, _ => rfl
  | [], _ :: _, h, _ => by cases h
  | _ :: _, [], _, h => by cases h
  | a :: x, b :: y, h, k => by
    have h' : (decide (a < b) || (a == b && Op.bytesLess x y)) = false := h
    have k' : (decide (b < a) || (b == a && Op.bytesLess y x)) = false := k
    simp only [Bool.or_eq_false_iff, decide_eq_false_iff_not, Bool.and_eq_false_iff] at h' k'
    have e : a = b := UInt8.toNat_inj.1 (by
      have h1 : ¬ a.toNat < b.toNat := fun h => h'.1 (UInt8.lt_iff_toNat_lt.2 h)
      have h2 : ¬ b.toNat < a.toNat := fun h => k'.1 (UInt8.lt_iff_toNat_lt.2 h)
      omega)
    subst e
    have h2 : Op.bytesLess x y = false := by rcases h'.2 with h | h; simp at h; exact h
    have k2 : Op.bytesLess y x = false := by rcases k'.2 with h | h; simp at h; exact h
    rw [bl_tri x y h2 k2]
theorem ba_eq {a b : ByteArray} (h : (a.toList == b.toList) = true) : a = b := by
  have h' : a.toList = b.toList := by simpa using h
  rw [ByteArray.toList_eq, ByteArray.toList_eq] at h'
  obtain ⟨⟨l⟩⟩ := a
  obtain ⟨⟨m⟩⟩ := b
  cases h'; rfl
theorem cmpB_self (a : ByteArray) : cmpB a a = 0 := by
  unfold cmpB
  rw [bl_irr]; simp
theorem cmpB_ne {a b : ByteArray} (h : (a.toList == b.toList) = false) : cmpB a b = if Op.bytesLess a.toList b.toList = true then -1 else 1 := by
  unfold cmpB
  rw [h]; simp
theorem orderB_self (a : ByteArray) : orderB a a = 0 := by
  unfold orderB orB
  rw [cmpB_self]
  cases everyB digitB a <;> simp [Lib.compareInt]
def lessB (b : Bool) : Int := if b = true then -1 else 1
theorem less3 (b : Bool) (w : World) : Calls Tryz.prog 74 #[.bool b] w fun e w' => e = .returned (.int .i64 (lessB b)) ∧ w = w' := by
  cases b with
  | false =>
    go_enter Tryz.func74, Tryz.ntmps74
    go_wp2
    go_ret
    exact ⟨rfl, rfl⟩
  | true =>
    go_enter Tryz.func74, Tryz.ntmps74
    go_wp2
    go_ret
    exact ⟨rfl, rfl⟩

set_option maxRecDepth 100000 in
set_option maxHeartbeats 2000000 in
theorem order3 (a b : ByteArray) (ha : a.size ≤ 1048576) (hb : b.size ≤ 1048576) (w : World) : Calls Tryz.prog 76 #[.string a, .string b] w fun e w' => e = .returned (.int .i64 (orderB a b)) ∧ w = w' := by
  cases he : a.toList == b.toList with
  | true =>
    have e : orderB a b = 0 := by rw [ba_eq he]; exact orderB_self b
    rw [e]
    clear e
    go_enter Tryz.func76, Tryz.ntmps76
    go_wp2
    go_ret
    exact ⟨rfl, rfl⟩
  | false =>
  have hcmp := cmpB_ne he
  cases h1 : everyB digitB a with
  | true =>
    cases h2 : everyB digitB b with
    | true =>
      have H1 := Lib.hid h1
      have H2 := Lib.hid h2
      have e : orderB a b = orB (Lib.compareInt a.size b.size) (cmpB a b) := by unfold orderB; rw [if_pos h1, if_pos h2]
      by_cases c1 : (a.size : Int) < b.size
      · have e2 : orderB a b = lessB true := by rw [e]; unfold Lib.compareInt; rw [if_pos c1]; rfl
        rw [e2]
        clear e e2 h1 h2 hcmp
        go_enter Tryz.func76, Tryz.ntmps76
        go_wp2_with (first
          | (exfalso; rename_i hu _; simp [undef] at hu; done)
          | (go_at_call 103; refine (digits3 _ (by assumption) _).mono ?_; (first | rw [H1.out] | rw [H2.out]); rintro e w' ⟨rfl, rfl⟩)
          | (go_at_call 74; refine (less3 _ _).mono ?_; rintro e w' ⟨rfl, rfl⟩))
        go_ret
        exact ⟨rfl, rfl⟩
      · by_cases c2 : (a.size : Int) = b.size
        · have e2 : orderB a b = lessB (Op.bytesLess a.toList b.toList) := by
            rw [e]; unfold Lib.compareInt; rw [if_neg c1, if_neg (by omega)]
            show orB 0 _ = _
            unfold orB; rw [if_pos rfl, hcmp]; rfl
          have c2' : ((a.size : Int) == b.size) = true := by simpa using c2
          rw [e2]
          clear e e2 h1 h2 hcmp c2
          go_enter Tryz.func76, Tryz.ntmps76
          go_wp2_with (first
            | (exfalso; rename_i hu _; simp [undef] at hu; done)
            | (go_at_call 103; refine (digits3 _ (by assumption) _).mono ?_; (first | rw [H1.out] | rw [H2.out]); rintro e w' ⟨rfl, rfl⟩)
            | (go_at_call 74; refine (less3 _ _).mono ?_; rintro e w' ⟨rfl, rfl⟩))
          go_ret
          exact ⟨by simp [show ¬ a.size < b.size by omega], rfl⟩
        · have e2 : orderB a b = lessB false := by
            rw [e]; unfold Lib.compareInt; rw [if_neg c1, if_pos (by omega)]; rfl
          have c2' : ((a.size : Int) == b.size) = false := by simpa using c2
          rw [e2]
          clear e e2 h1 h2 hcmp c2
          go_enter Tryz.func76, Tryz.ntmps76
          go_wp2_with (first
            | (exfalso; rename_i hu _; simp [undef] at hu; done)
            | (go_at_call 103; refine (digits3 _ (by assumption) _).mono ?_; (first | rw [H1.out] | rw [H2.out]); rintro e w' ⟨rfl, rfl⟩)
            | (go_at_call 74; refine (less3 _ _).mono ?_; rintro e w' ⟨rfl, rfl⟩))
          go_ret
          exact ⟨by simp [show ¬ a.size < b.size by omega], rfl⟩
    | false =>
      have e : orderB a b = lessB true := by unfold orderB; rw [if_pos h1, if_neg (by rw [h2]; exact Bool.false_ne_true)]; rfl
      rw [e]
      have H1 := Lib.hid h1
      have H2 := Lib.hid h2
      clear e h1 h2 hcmp
      go_enter Tryz.func76, Tryz.ntmps76
      go_wp2_with (first
        | (go_at_call 103; refine (digits3 _ (by assumption) _).mono ?_; (first | rw [H1.out] | rw [H2.out]); rintro e w' ⟨rfl, rfl⟩)
        | (go_at_call 74; refine (less3 _ _).mono ?_; rintro e w' ⟨rfl, rfl⟩))
      go_ret
      exact ⟨rfl, rfl⟩
  | false =>
    cases h2 : everyB digitB b with
    | true =>
      have e : orderB a b = lessB false := by unfold orderB; rw [if_neg (by rw [h1]; exact Bool.false_ne_true), if_pos h2]; rfl
      rw [e]
      have H1 := Lib.hid h1
      have H2 := Lib.hid h2
      clear e h1 h2 hcmp
      go_enter Tryz.func76, Tryz.ntmps76
      go_wp2_with (first
        | (go_at_call 103; refine (digits3 _ (by assumption) _).mono ?_; (first | rw [H1.out] | rw [H2.out]); rintro e w' ⟨rfl, rfl⟩)
        | (go_at_call 74; refine (less3 _ _).mono ?_; rintro e w' ⟨rfl, rfl⟩))
      go_ret
      exact ⟨rfl, rfl⟩
    | false =>
      have e : orderB a b = lessB (Op.bytesLess a.toList b.toList) := by unfold orderB; rw [if_neg (by rw [h1]; exact Bool.false_ne_true), if_neg (by rw [h2]; exact Bool.false_ne_true), hcmp]; rfl
      rw [e]
      have H1 := Lib.hid h1
      have H2 := Lib.hid h2
      clear e h1 h2 hcmp
      go_enter Tryz.func76, Tryz.ntmps76
      go_wp2_with (first
        | (go_at_call 103; refine (digits3 _ (by assumption) _).mono ?_; (first | rw [H1.out] | rw [H2.out]); rintro e w' ⟨rfl, rfl⟩)
        | (go_at_call 74; refine (less3 _ _).mono ?_; rintro e w' ⟨rfl, rfl⟩))
      go_ret
      exact ⟨rfl, rfl⟩

/-- Two identifiers that are one in the order are one. -/
theorem orderB_zero {a b : ByteArray} (h : orderB a b = 0) : a = b := by
  cases he : a.toList == b.toList with
  | true => exact ba_eq he
  | false =>
    exfalso
    have hc := cmpB_ne he
    have hc0 : cmpB a b ≠ 0 := by rw [hc]; split <;> decide
    unfold orderB orB at h
    repeat' split at h
    all_goals first | exact hc0 h | (cases h) | contradiction
end Go.Proofs.YtcfmaeonginefaaGreatDoor.Order3
