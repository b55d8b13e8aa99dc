/- semver.sign, every at signs, nought, number: what they answer. -/
import Derived.Test.YtcfmaeonginefaaGreatDoorIdents
import Derived.Lib.Atoi
import Derived.Lib.ConvBytes
import Derived.Lib.AtoiErrMem
namespace Go.Proofs.YtcfmaeonginefaaGreatDoor.Sign
open Go Go.RowKit Go.Shelf Go.Proofs.YtcfmaeonginefaaGreatDoor.Seq Go.Proofs.YtcfmaeonginefaaGreatDoor.Cut Go.Proofs.YtcfmaeonginefaaGreatDoor.Elems Go.Proofs.YtcfmaeonginefaaGreatDoor.Paths Go.Proofs.YtcfmaeonginefaaGreatDoor.Made Go.Proofs.YtcfmaeonginefaaGreatDoor.Idents
attribute [local go_sem] Oper.semAt_some
set_option linter.unusedSimpArgs false
set_option linter.unusedVariables false

set_option maxHeartbeats 1000000 in
theorem sign (b : UInt8) (w : World) : Calls Tryz.prog 88 #[.int .u8 b.toNat] w fun e w' => e = .returned (.bool (signB b)) ∧ w = w' := by
  cases hd : digitB b with
  | true =>
    have e : signB b = true := by simp only [signB, hd, Bool.true_or]
    have HD := Lib.hid hd
    clear hd
    rw [e]
    go_enter Tryz.func88, Tryz.ntmps88
    go_wp2_with (go_at_call 123; refine (digit b _).mono ?_; rw [HD.out]; rintro e w' ⟨rfl, rfl⟩)
    go_ret
    exact ⟨rfl, rfl⟩
  | false =>
    have HD := Lib.hid hd
    by_cases h1 : (97 : Int) ≤ bits BinOp.or IntKind.u8 b.toNat 32
    · by_cases h2 : bits BinOp.or IntKind.u8 b.toNat 32 ≤ 122
      · have e : signB b = true := by simp only [signB, lowB, hd, h1, h2, decide_true, Bool.and_self, Bool.true_or, Bool.or_true]
        rw [e]
        clear hd
        go_enter Tryz.func88, Tryz.ntmps88
        go_wp2_with (go_at_call 123; refine (digit b _).mono ?_; rw [HD.out]; rintro e w' ⟨rfl, rfl⟩)
        go_ret
        exact ⟨rfl, rfl⟩
      · have e : signB b = ((b.toNat : Int) == 45) := by simp only [signB, lowB, hd, h2, decide_false, Bool.and_false, Bool.false_or]
        rw [e]
        clear hd
        go_enter Tryz.func88, Tryz.ntmps88
        go_wp2_with (go_at_call 123; refine (digit b _).mono ?_; rw [HD.out]; rintro e w' ⟨rfl, rfl⟩)
        go_ret
        exact ⟨by simp; intro h; omega, rfl⟩
    · have e : signB b = ((b.toNat : Int) == 45) := by simp only [signB, lowB, hd, h1, decide_false, Bool.false_and, Bool.false_or]
      rw [e]
      clear hd
      go_enter Tryz.func88, Tryz.ntmps88
      go_wp2_with (go_at_call 123; refine (digit b _).mono ?_; rw [HD.out]; rintro e w' ⟨rfl, rfl⟩)
      go_ret
      exact ⟨rfl, rfl⟩

set_option maxRecDepth 100000 in
set_option maxHeartbeats 1000000 in
theorem everyS (s : ByteArray) (hs : s.size ≤ 1048576) (w : World) : Calls Tryz.prog 87 #[.string s, .func (.func 88) #[] #[]] w fun e w' => e = .returned (.bool (everyB signB s)) ∧ w = w' := by
  go_enter Tryz.func87, Tryz.ntmps87
  go_wp2
  go_loop [8] (fun i => ∃ k : Nat, k ≤ s.size ∧ i = .int .i64 k ∧ ((s.data.toList.take k).all signB) = true) (fun i => s.size - (intOf i).toNat)
  case atStart => exact ⟨0, Nat.zero_le _, rfl, rfl⟩
  case round =>
    obtain ⟨k, hk, rfl, hall⟩ := hrel
    by_cases hlt : k < s.size
    · have HT := Lib.hid (all_split signB s k hlt hall)
      clear hall
      cases hd : signB s[k] with
      | true =>
        have HD := Lib.hid hd
        clear hd
        go_wp2_with (go_at_call 88; refine (sign s[k] _).mono ?_; rw [HD.out]; rintro e w' ⟨rfl, rfl⟩)
        go_round
        case rel => exact ⟨k + 1, by omega, by go_num, by rw [HT.out]; exact HD.out⟩
        case measure => simp [intOf]; omega
      | false =>
        have HN := Lib.hid (all_no signB s k hlt hd)
        have HD := Lib.hid hd
        clear hd
        go_wp2_with (go_at_call 88; refine (sign s[k] _).mono ?_; rw [HD.out]; rintro e w' ⟨rfl, rfl⟩)
        go_ret
        exact ⟨ret_bool (by unfold everyB; rw [HN.out]; rfl), rfl⟩
    · obtain rfl : k = s.size := by omega
      rw [List.take_of_length_le (by rw [Array.length_toList]; exact Nat.le_refl _)] at hall
      have HA := Lib.hid hall
      clear hall
      go_wp2
      go_ret
      exact ⟨ret_bool (by unfold everyB; rw [HA.out]; rfl), rfl⟩

/-- A nought ahead of other digits? -/
def noughtB (s : ByteArray) : Bool := if h : 1 < s.size then decide ((s[0].toNat : Int) = 48) && everyB digitB s else false

set_option maxHeartbeats 1000000 in
theorem nought (s : ByteArray) (hs : s.size ≤ 1048576) (w : World) : Calls Tryz.prog 89 #[.string s] w fun e w' => e = .returned (.bool (noughtB s)) ∧ w = w' := by
  by_cases h1 : 1 < s.size
  · by_cases h2 : (s[0].toNat : Int) = 48
    · have e : noughtB s = everyB digitB s := by unfold noughtB; rw [dif_pos h1, decide_eq_true h2, Bool.true_and]
      rw [e]
      have h1' : (1 : Int) < s.size := by omega
      go_enter Tryz.func89, Tryz.ntmps89
      go_wp2_with (go_at_call 87; refine (everyD s hs _).mono ?_; rintro e w' ⟨rfl, rfl⟩)
      go_ret
      exact ⟨rfl, rfl⟩
    · have e : noughtB s = false := by unfold noughtB; rw [dif_pos h1, decide_eq_false h2, Bool.false_and]
      rw [e]
      have h1' : (1 : Int) < s.size := by omega
      have h2' : ((s[0].toNat : Int) == 48) = false := by simpa using h2
      go_enter Tryz.func89, Tryz.ntmps89
      go_wp2
      go_ret
      exact ⟨rfl, rfl⟩
  · have e : noughtB s = false := by unfold noughtB; rw [dif_neg h1]
    rw [e]
    have h1' : ¬ (1 : Int) < s.size := by omega
    go_enter Tryz.func89, Tryz.ntmps89
    go_wp2
    go_ret
    exact ⟨rfl, rfl⟩

/-- May a text be a number? -/
def numOk (s : ByteArray) : Bool := everyB digitB s && !decide ((9 : Int) < s.size) && !noughtB s
/-- Its value. -/
def numV (s : ByteArray) : Int := if numOk s = true then (((Lib.decFrom 0 s.data.toList).getD 0 : Nat) : Int) else 0

theorem digitB_val {b : UInt8} (h : digitB b = true) : Lib.digitVal b = some (b.toNat - 48) := by
  simp only [digitB, Bool.and_eq_true, decide_eq_true_eq] at h
  unfold Lib.digitVal
  rw [if_pos (by omega)]
theorem decFrom_digits : ∀ (l : List UInt8) (acc : Nat), l.all digitB = true → ∃ n, Lib.decFrom acc l = some n
  | [], acc, _ => ⟨acc, rfl⟩
  | b :: r, acc, h => by
    simp only [List.all_cons, Bool.and_eq_true] at h
    unfold Lib.decFrom
    rw [digitB_val h.1]
    exact decFrom_digits r _ h.2
theorem toList_empty (s : ByteArray) : s.toList.isEmpty = s.data.toList.isEmpty := by rw [ByteArray.toList_eq]
theorem atoi_digits (s : ByteArray) (h : everyB digitB s = true) : Lib.atoi s.data.toList = some (((Lib.decFrom 0 s.data.toList).getD 0 : Nat) : Int) := by
  unfold everyB at h
  rw [toList_empty] at h
  simp only [Bool.and_eq_true] at h
  obtain ⟨n, hn⟩ := decFrom_digits s.data.toList 0 h.1
  rw [hn]
  obtain ⟨h1, h2⟩ := h
  generalize s.data.toList = l at *
  cases l with
  | nil => simp at h2
  | cons b r =>
    simp only [List.all_cons, Bool.and_eq_true] at h1
    have hb := h1.1
    simp only [digitB, Bool.and_eq_true, decide_eq_true_eq] at hb
    have b1 : (b == 45) = false := by rw [beq_eq_false_iff_ne]; rintro rfl; simp at hb
    have b2 : (b == 43) = false := by rw [beq_eq_false_iff_ne]; rintro rfl; simp at hb
    unfold Lib.atoi
    simp only [b1, b2, Lib.decNat, List.isEmpty_cons, hn]
    rfl

set_option maxHeartbeats 2000000 in
theorem number (s : ByteArray) (hs : s.size ≤ 1048576) (w : World) : Calls Tryz.prog 86 #[.string s] w fun e w' => e = .returned (.tuple #[.int .i64 (numV s), .bool (numOk s)]) ∧ Below w.heap.size w w' := by
  cases h1 : everyB digitB s with
  | false =>
    have e : numOk s = false := by simp only [numOk, h1, Bool.false_and]
    have e2 : numV s = 0 := by unfold numV; rw [e]; rfl
    rw [e, e2]
    have H1 := Lib.hid h1
    clear h1 e e2
    go_enter Tryz.func86, Tryz.ntmps86
    go_wp2_with (go_at_call 87; refine (everyD s hs _).mono ?_; rw [H1.out]; rintro e w' ⟨rfl, rfl⟩)
    go_ret2
    exact ⟨rfl, Below.refl _ _⟩
  | true =>
  have H1 := Lib.hid h1
  by_cases h2 : (9 : Int) < s.size
  · have e : numOk s = false := by simp only [numOk, h2, decide_true, Bool.not_true, Bool.and_false, Bool.false_and]
    have e2 : numV s = 0 := by unfold numV; rw [e]; rfl
    rw [e, e2]
    clear h1 e e2
    go_enter Tryz.func86, Tryz.ntmps86
    go_wp2_with (go_at_call 87; refine (everyD s hs _).mono ?_; rw [H1.out]; rintro e w' ⟨rfl, rfl⟩)
    go_ret2
    exact ⟨rfl, Below.refl _ _⟩
  have h2' : (s.size : Int) ≤ 9 := by omega
  cases h3 : noughtB s with
  | true =>
    have e : numOk s = false := by simp only [numOk, h3, Bool.not_true, Bool.and_false]
    have e2 : numV s = 0 := by unfold numV; rw [e]; rfl
    rw [e, e2]
    have H3 := Lib.hid h3
    clear h1 h3 e e2
    go_enter Tryz.func86, Tryz.ntmps86
    go_wp2_with (first
      | (go_at_call 87; refine (everyD s hs _).mono ?_; rw [H1.out]; rintro e w' ⟨rfl, rfl⟩)
      | (go_at_call 89; refine (nought s hs _).mono ?_; rw [H3.out]; rintro e w' ⟨rfl, rfl⟩))
    go_ret2
    exact ⟨rfl, Below.refl _ _⟩
  | false =>
    have e : numOk s = true := by simp only [numOk, h1, h3, decide_eq_false h2, Bool.not_false, Bool.and_self]
    have e2 : numV s = (((Lib.decFrom 0 s.data.toList).getD 0 : Nat) : Int) := by unfold numV; rw [e]; rfl
    rw [e]
    have H3 := Lib.hid h3
    have HA := Lib.hid (atoi_digits s h1)
    rw [← e2] at HA
    clear h1 h3 e e2
    go_enter Tryz.func86, Tryz.ntmps86
    go_wp2_with (first
      | (go_at_call 87; refine (everyD s hs _).mono ?_; rw [H1.out]; rintro e w' ⟨rfl, rfl⟩)
      | (go_at_call 89; refine (nought s hs _).mono ?_; rw [H3.out]; rintro e w' ⟨rfl, rfl⟩)
      | (go_at_call 124; refine (Tryz.strconv_Atoi s (numV s) (by omega) HA.out _).mono ?_; rintro e w' ⟨rfl, t, rfl⟩))
    go_quiet (fail)
    go_wp2
    go_ret2
    exact ⟨rfl, pw_drewN (Lib.bytesWorld_below _ _ _) _⟩
end Go.Proofs.YtcfmaeonginefaaGreatDoor.Sign
