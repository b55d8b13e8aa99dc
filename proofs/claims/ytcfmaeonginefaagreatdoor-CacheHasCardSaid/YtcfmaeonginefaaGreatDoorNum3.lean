/- graftbedref03: digit, digits, find, Number: what they answer. -/
import Derived.Test.YtcfmaeonginefaaGreatDoorSign
namespace Go.Proofs.YtcfmaeonginefaaGreatDoor.Num3
open Go Go.RowKit Go.Shelf Go.Proofs.YtcfmaeonginefaaGreatDoor.Seq Go.Proofs.YtcfmaeonginefaaGreatDoor.Cut Go.Proofs.YtcfmaeonginefaaGreatDoor.Elems Go.Proofs.YtcfmaeonginefaaGreatDoor.Paths Go.Proofs.YtcfmaeonginefaaGreatDoor.Made Go.Proofs.YtcfmaeonginefaaGreatDoor.Idents Go.Proofs.YtcfmaeonginefaaGreatDoor.Sign
set_option linter.unusedSimpArgs false
set_option linter.unusedVariables false

theorem digit3 (b : UInt8) (w : World) : Calls Tryz.prog 128 #[.int .u8 b.toNat] w fun e w' => e = .returned (.bool (digitB b)) ∧ w = w' := by
  by_cases h1 : (48 : Int) ≤ b.toNat
  · have e : digitB b = decide ((b.toNat : Int) ≤ 57) := by simp [digitB, h1]
    rw [e]
    go_enter Tryz.func128, Tryz.ntmps128
    go_wp2
    go_ret
    exact ⟨rfl, rfl⟩
  · have e : digitB b = false := by simp [digitB, h1]
    rw [e]
    go_enter Tryz.func128, Tryz.ntmps128
    go_wp2
    go_ret
    exact ⟨rfl, rfl⟩

set_option maxRecDepth 100000 in
set_option maxHeartbeats 1000000 in
theorem digits3 (s : ByteArray) (hs : s.size ≤ 1048576) (w : World) : Calls Tryz.prog 103 #[.string s] w fun e w' => e = .returned (.bool (everyB digitB s)) ∧ w = w' := by
  go_enter Tryz.func103, Tryz.ntmps103
  go_wp2
  go_loop [3] (fun i => ∃ k : Nat, k ≤ s.size ∧ i = .int .i64 k ∧ ((s.data.toList.take k).all digitB) = true) (fun i => s.size - (intOf i).toNat)
  case atStart => exact ⟨0, Nat.zero_le _, rfl, rfl⟩
  case round =>
    obtain ⟨k, hk, rfl, hall⟩ := hrel
    by_cases hlt : k < s.size
    · have HT := Lib.hid (all_split digitB s k hlt hall)
      clear hall
      cases hd : digitB s[k] with
      | true =>
        have HD := Lib.hid hd
        clear hd
        go_wp2_with (go_at_call 128; refine (digit3 s[k] _).mono ?_; rw [HD.out]; rintro e w' ⟨rfl, rfl⟩)
        go_round
        case rel => exact ⟨k + 1, by omega, by go_num, by rw [HT.out]; exact HD.out⟩
        case measure => simp [intOf]; omega
      | false =>
        have HN := Lib.hid (all_no digitB s k hlt hd)
        have HD := Lib.hid hd
        clear hd
        go_wp2_with (go_at_call 128; refine (digit3 s[k] _).mono ?_; rw [HD.out]; rintro e w' ⟨rfl, rfl⟩)
        go_ret
        exact ⟨ret_bool (by unfold everyB; rw [HN.out]; rfl), rfl⟩
    · obtain rfl : k = s.size := by omega
      rw [List.take_of_length_le (by rw [Array.length_toList]; exact Nat.le_refl _)] at hall
      have HA := Lib.hid hall
      clear hall
      go_wp2
      go_ret
      exact ⟨ret_bool (by unfold everyB; rw [HA.out]; rfl), rfl⟩

/-- Where a byte stands, or the length. -/
def findB (s : ByteArray) (c : UInt8) : Int := if ix s c < 0 then s.size else ix s c
theorem ib_take {c : UInt8} : ∀ (l : List UInt8) (k : Nat), (∀ b ∈ l.take k, b ≠ c) → ∀ (h : k < l.length), l[k] = c → Lib.indexByte l c = k
  | [], k, _, h, _ => absurd h (by simp)
  | b :: t, 0, _, _, e => by obtain rfl : b = c := e; exact ib_here t b
  | b :: t, k + 1, hn, h, e => by
    have hb : b ≠ c := hn b (by simp)
    rw [ib_cons b t c hb, ib_take t k (fun x hx => hn x (by simp [hx])) (by simpa using h) (by simpa using e)]
    rw [if_neg (by omega)]
    omega
theorem ib_none {c : UInt8} : ∀ (l : List UInt8), (∀ b ∈ l, b ≠ c) → Lib.indexByte l c = -1
  | [], _ => rfl
  | b :: t, hn => by
    rw [ib_cons b t c (hn b (by simp)), ib_none t (fun x hx => hn x (by simp [hx]))]
    rfl

set_option maxRecDepth 100000 in
set_option maxHeartbeats 1000000 in
theorem find3 (s : ByteArray) (c : UInt8) (hs : s.size ≤ 1048576) (w : World) : Calls Tryz.prog 72 #[.string s, .int .u8 c.toNat] w fun e w' => e = .returned (.int .i64 (findB s c)) ∧ w = w' := by
  go_enter Tryz.func72, Tryz.ntmps72
  go_wp2
  go_loop [5] (fun i => ∃ k : Nat, k ≤ s.size ∧ i = .int .i64 k ∧ ((s.data.toList.take k).all fun b => b != c) = true) (fun i => s.size - (intOf i).toNat)
  case atStart => exact ⟨0, Nat.zero_le _, rfl, rfl⟩
  case round =>
    obtain ⟨k, hk, rfl, hall⟩ := hrel
    by_cases hlt : k < s.size
    · have HT := Lib.hid (all_split (fun b => b != c) s k hlt hall)
      have HA := Lib.hid hall
      clear hall
      by_cases hd : s[k] = c
      · have hd1 : ((s[k].toNat : Int) == c.toNat) = true := by rw [hd]; simp
        have HE := Lib.hid hd
        clear hd
        go_wp2
        go_ret
        refine ⟨ret_num ?_, rfl⟩
        have hl : k < s.data.toList.length := by rw [Array.length_toList]; exact hlt
        have h1 : Lib.indexByte s.data.toList c = k := ib_take _ k (fun b hb => by have := List.all_eq_true.1 HA.out b hb; simpa using this) hl HE.out
        unfold findB ix
        rw [h1, if_neg (by omega)]
      · have hd1 : ((s[k].toNat : Int) == c.toNat) = false := by
          rw [beq_eq_false_iff_ne]
          intro h
          exact hd (UInt8.toNat_inj.1 (by omega))
        have hd2 : (s[k] != c) = true := by simpa using hd
        have HD := Lib.hid hd2
        clear hd hd2
        go_wp2
        go_round
        case rel => exact ⟨k + 1, by omega, by go_num, by rw [HT.out]; exact HD.out⟩
        case measure => simp [intOf]; omega
    · obtain rfl : k = s.size := by omega
      rw [List.take_of_length_le (by rw [Array.length_toList]; exact Nat.le_refl _)] at hall
      have h1 : Lib.indexByte s.data.toList c = -1 := ib_none _ (fun b hb => by have := List.all_eq_true.1 hall b hb; simpa using this)
      have HA := Lib.hid h1
      clear hall h1
      go_wp2
      go_ret
      exact ⟨ret_num (by unfold findB ix; rw [HA.out, if_pos (by decide)]), rfl⟩

/-- The number of a text, below 0: none. -/
def numR (s : ByteArray) : Int := if numOk s = true then numV s else -1
theorem numOk_parts {s : ByteArray} (h1 : everyB digitB s = true) (h2 : (s.size : Int) ≤ 9) : numOk s = !noughtB s := by
  simp only [numOk, h1, decide_eq_false (show ¬ (9 : Int) < s.size by omega), Bool.not_false, Bool.true_and, Bool.and_self]
theorem dec_step (s : ByteArray) (k n : Nat) (hk : k < s.size) (h : Lib.decFrom 0 (s.data.toList.take k) = some n) (hd : digitB s[k] = true) : Lib.decFrom 0 (s.data.toList.take (k + 1)) = some (n * 10 + (s[k].toNat - 48)) :=
  Lib.decFrom_take _ k 0 n s[k] (s[k].toNat - 48) h (by rw [List.getElem?_eq_getElem (by rw [Array.length_toList]; exact hk)]; rfl) (digitB_val hd)
theorem all_at {s : ByteArray} {p : UInt8 → Bool} (h : s.data.toList.all p = true) (k : Nat) (hk : k < s.size) : p s[k] = true :=
  List.all_eq_true.1 h s[k] (by
    have hl : k < s.data.toList.length := by rw [Array.length_toList]; exact hk
    have : s.data.toList[k]? = some s[k] := by rw [List.getElem?_eq_getElem hl]; rfl
    exact List.mem_of_getElem? this)

set_option maxRecDepth 100000 in
set_option maxHeartbeats 2000000 in
theorem number3 (s : ByteArray) (hs : s.size ≤ 1048576) (w : World) : Calls Tryz.prog 102 #[.string s] w fun e w' => e = .returned (.int .i64 (numR s)) ∧ w = w' := by
  cases h1 : everyB digitB s with
  | false =>
    have e : numR s = -1 := by unfold numR; rw [show numOk s = false by simp only [numOk, h1, Bool.false_and]]; rfl
    rw [e]
    have H1 := Lib.hid h1
    clear h1 e
    go_enter Tryz.func102, Tryz.ntmps102
    go_wp2_with (go_at_call 103; refine (digits3 s hs _).mono ?_; rw [H1.out]; rintro e w' ⟨rfl, rfl⟩)
    go_ret
    exact ⟨rfl, rfl⟩
  | true =>
  have H1 := Lib.hid h1
  by_cases h2 : (9 : Int) < s.size
  · have e : numR s = -1 := by unfold numR; rw [show numOk s = false by simp only [numOk, h2, decide_true, Bool.not_true, Bool.and_false, Bool.false_and]]; rfl
    rw [e]
    clear h1 e
    go_enter Tryz.func102, Tryz.ntmps102
    go_wp2_with (go_at_call 103; refine (digits3 s hs _).mono ?_; rw [H1.out]; rintro e w' ⟨rfl, rfl⟩)
    go_ret
    exact ⟨rfl, rfl⟩
  have h2' : (s.size : Int) ≤ 9 := by omega
  have hok := numOk_parts h1 h2'
  have main : noughtB s = false → (∀ (hgt : 1 < s.size), ((s[0].toNat : Int) == 48) = false) → Calls Tryz.prog 102 #[.string s] w fun e w' => e = .returned (.int .i64 (numR s)) ∧ w = w' := by
    intro h3 hfirst
    rw [h3] at hok
    have hall : s.data.toList.all digitB = true := by unfold everyB at h1; simp only [Bool.and_eq_true] at h1; exact h1.1
    have hV : numR s = (((Lib.decFrom 0 s.data.toList).getD 0 : Nat) : Int) := by unfold numR numV; rw [hok]; rfl
    have HV := Lib.hid hV
    have HAL := Lib.hid hall
    clear h1 hok h3 hV hall
    by_cases hgt : 1 < s.size
    · have hgt' : (1 : Int) < s.size := by omega
      have hf := hfirst hgt
      clear hfirst
      go_enter Tryz.func102, Tryz.ntmps102
      go_wp2_with (go_at_call 103; refine (digits3 s hs _).mono ?_; rw [H1.out]; rintro e w' ⟨rfl, rfl⟩)
      go_loop [3, 4] (fun nv iv => ∃ k n : Nat, k ≤ s.size ∧ nv = .int .i64 n ∧ iv = .int .i64 k ∧ Lib.decFrom 0 (s.data.toList.take k) = some n) (fun nv iv => s.size - (intOf iv).toNat)
      case atStart => exact ⟨0, 0, Nat.zero_le _, rfl, rfl, rfl⟩
      case round =>
        obtain ⟨k, n, hk, rfl, rfl, hdec⟩ := hrel
        by_cases hlt : k < s.size
        · have hd := all_at HAL.out k hlt
          have HT := Lib.hid (dec_step s k n hlt hdec hd)
          have hb : n < 1000000000 := by
            have := Lib.decFrom_lt _ 0 n hdec
            have h10 : 10 ^ (s.data.toList.take k).length ≤ 10 ^ 9 := Nat.pow_le_pow_right (by decide) (by simp; omega)
            omega
          simp only [digitB, Bool.and_eq_true, decide_eq_true_eq] at hd
          obtain ⟨hd1, hd2⟩ := hd
          clear hdec
          go_wp2
          go_round
          case rel => exact ⟨k + 1, n * 10 + (s[k].toNat - 48), by omega, by go_num, by go_num, HT.out⟩
          case measure => simp [intOf]; omega
        · obtain rfl : k = s.size := by omega
          rw [List.take_of_length_le (by rw [Array.length_toList]; exact Nat.le_refl _)] at hdec
          have HD := Lib.hid hdec
          clear hdec
          go_wp2
          go_ret
          exact ⟨ret_num (by rw [HV.out, HD.out]; rfl), rfl⟩
    · have hgt' : ¬ (1 : Int) < s.size := by omega
      clear hfirst
      go_enter Tryz.func102, Tryz.ntmps102
      go_wp2_with (go_at_call 103; refine (digits3 s hs _).mono ?_; rw [H1.out]; rintro e w' ⟨rfl, rfl⟩)
      go_loop [3, 4] (fun nv iv => ∃ k n : Nat, k ≤ s.size ∧ nv = .int .i64 n ∧ iv = .int .i64 k ∧ Lib.decFrom 0 (s.data.toList.take k) = some n) (fun nv iv => s.size - (intOf iv).toNat)
      case atStart => exact ⟨0, 0, Nat.zero_le _, rfl, rfl, rfl⟩
      case round =>
        obtain ⟨k, n, hk, rfl, rfl, hdec⟩ := hrel
        by_cases hlt : k < s.size
        · have hd := all_at HAL.out k hlt
          have HT := Lib.hid (dec_step s k n hlt hdec hd)
          have hb : n < 1000000000 := by
            have := Lib.decFrom_lt _ 0 n hdec
            have h10 : 10 ^ (s.data.toList.take k).length ≤ 10 ^ 9 := Nat.pow_le_pow_right (by decide) (by simp; omega)
            omega
          simp only [digitB, Bool.and_eq_true, decide_eq_true_eq] at hd
          obtain ⟨hd1, hd2⟩ := hd
          clear hdec
          go_wp2
          go_round
          case rel => exact ⟨k + 1, n * 10 + (s[k].toNat - 48), by omega, by go_num, by go_num, HT.out⟩
          case measure => simp [intOf]; omega
        · obtain rfl : k = s.size := by omega
          rw [List.take_of_length_le (by rw [Array.length_toList]; exact Nat.le_refl _)] at hdec
          have HD := Lib.hid hdec
          clear hdec
          go_wp2
          go_ret
          exact ⟨ret_num (by rw [HV.out, HD.out]; rfl), rfl⟩
  by_cases hgt : 1 < s.size
  · by_cases h4 : (s[0].toNat : Int) = 48
    · have h3 : noughtB s = true := by unfold noughtB; rw [dif_pos hgt, decide_eq_true h4, h1]; rfl
      have e : numR s = -1 := by unfold numR; rw [hok, h3]; rfl
      rw [e]
      have hf : ((s[0].toNat : Int) == 48) = true := by simpa using h4
      have hgt' : (1 : Int) < s.size := by omega
      clear e h1 h3 hok h4 main
      go_enter Tryz.func102, Tryz.ntmps102
      go_wp2_with (go_at_call 103; refine (digits3 s hs _).mono ?_; rw [H1.out]; rintro e w' ⟨rfl, rfl⟩)
      go_ret
      exact ⟨rfl, rfl⟩
    · exact main (by unfold noughtB; rw [dif_pos hgt, decide_eq_false h4]; rfl) (fun _ => by simpa using h4)
  · exact main (by unfold noughtB; rw [dif_neg hgt]) (fun h => absurd h hgt)
end Go.Proofs.YtcfmaeonginefaaGreatDoor.Num3
