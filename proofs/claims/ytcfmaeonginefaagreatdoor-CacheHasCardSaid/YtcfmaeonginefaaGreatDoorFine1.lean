/- graftbedref01: fine, Valid: what they answer. -/
import Derived.Test.YtcfmaeonginefaaGreatDoorPathCmp
import Derived.Test.YtcfmaeonginefaaGreatDoorIdents3
namespace Go.Proofs.YtcfmaeonginefaaGreatDoor.Fine1
open Go Go.RowKit Go.Shelf Go.Proofs.YtcfmaeonginefaaGreatDoor.Seq Go.Proofs.YtcfmaeonginefaaGreatDoor.Cut Go.Proofs.YtcfmaeonginefaaGreatDoor.Elems Go.Proofs.YtcfmaeonginefaaGreatDoor.Paths Go.Proofs.YtcfmaeonginefaaGreatDoor.Made Go.Proofs.YtcfmaeonginefaaGreatDoor.Idents Go.Proofs.YtcfmaeonginefaaGreatDoor.Num3 Go.Proofs.YtcfmaeonginefaaGreatDoor.Split3 Go.Proofs.YtcfmaeonginefaaGreatDoor.Idents3 Go.Proofs.YtcfmaeonginefaaGreatDoor.Hand01 Go.Proofs.YtcfmaeonginefaaGreatDoor.PathCmp
set_option linter.unusedSimpArgs false
set_option linter.unusedVariables false

theorem fineB_odd {b : UInt8} (h1 : (32 : Int) < b.toNat) (h2 : (b.toNat : Int) < 127) : fineB b.toNat = decide (ix odd b < 0) := by
  have e : ((b.toNat : Int)).toNat.toUInt8 = b := by simp
  simp only [fineB, decide_eq_true h1, decide_eq_true h2, e, Bool.true_and]
theorem ix_neg {s : ByteArray} {b : UInt8} (h : ∀ x ∈ s.data.toList, x ≠ b) : decide (ix s b < 0) = true := by
  unfold ix; rw [ib_none _ h]; decide
theorem ix_pos {s : ByteArray} {b : UInt8} (k : Nat) (hk : k < s.size) (h : s[k] = b) : decide (ix s b < 0) = false := by
  refine decide_eq_false fun hn => ?_
  have h1 : Lib.indexByte s.data.toList b = -1 := by have := Lib.indexByte_ge s.data.toList b; unfold ix at hn; omega
  have h2 := Lib.indexByte_none h1 k
  have e : s.data.toList.length = s.size := by rw [Array.length_toList]; rfl
  rw [List.getElem?_eq_getElem (by omega)] at h2
  exact h2 (congrArg some h)

set_option maxRecDepth 100000 in
set_option maxHeartbeats 1000000 in
theorem fine01 (b : UInt8) (w : World) : Calls Tryz.prog 100 #[.int .u8 b.toNat] w fun e w' => e = .returned (.bool (fineB b.toNat)) ∧ w = w' := by
  by_cases h1 : (b.toNat : Int) < 33
  · have e : fineB b.toNat = false := by simp only [fineB, decide_eq_false (show ¬ (32 : Int) < b.toNat by omega), Bool.false_and]
    rw [e]
    clear e
    go_enter Tryz.func100, Tryz.ntmps100
    go_wp2
    go_ret
    exact ⟨rfl, rfl⟩
  by_cases h2 : (126 : Int) < b.toNat
  · have e : fineB b.toNat = false := by simp only [fineB, decide_eq_false (show ¬ (b.toNat : Int) < 127 by omega), Bool.and_false, Bool.false_and]
    rw [e]
    clear e
    go_enter Tryz.func100, Tryz.ntmps100
    go_wp2
    go_ret
    exact ⟨rfl, rfl⟩
  rw [fineB_odd (by omega) (by omega)]
  obtain ⟨O, hO⟩ : ∃ O, odd = O := ⟨_, rfl⟩
  have hO2 : O.size = 9 := by rw [← hO]; rfl
  have HO := Lib.hid (show (⟨#[34, 42, 58, 60, 62, 63, 92, 124, 96]⟩ : ByteArray) = O from hO)
  rw [hO]
  have HS := Lib.hid hO2
  clear hO hO2
  go_enter Tryz.func100, Tryz.ntmps100
  go_wp2
  rw [HO.out]
  go_loop [4] (fun i => ∃ k : Nat, k ≤ 9 ∧ i = .int .i64 k ∧ ((O.data.toList.take k).all fun x => x != b) = true) (fun i => 9 - (intOf i).toNat)
  case atStart => exact ⟨0, Nat.zero_le _, rfl, rfl⟩
  case round =>
    obtain ⟨k, hk, rfl, hall⟩ := hrel
    by_cases hlt : k < 9
    · have hlt' : k < O.size := by rw [HS.out]; exact hlt
      have HT := Lib.hid (all_split (fun x => x != b) O k hlt' hall)
      have HA := Lib.hid hall
      clear hall
      by_cases hd : O[k] = b
      · have hd1 : ((O[k].toNat : Int) == b.toNat) = true := by rw [hd]; simp
        have HD := Lib.hid (ix_pos k hlt' hd)
        clear hd
        go_wp2
        go_ret
        exact ⟨ret_bool HD.out.symm, rfl⟩
      · have hd1 : ((O[k].toNat : Int) == b.toNat) = false := by
          rw [beq_eq_false_iff_ne]
          intro h
          exact hd (UInt8.toNat_inj.1 (by omega))
        have HD := Lib.hid (show ((O.data.toList.take (k + 1)).all fun x => x != b) = true by rw [HT.out]; simpa using hd)
        clear hd
        go_wp2
        go_round
        case rel => exact ⟨k + 1, by omega, by go_num, HD.out⟩
        case measure => simp [intOf] <;> omega
    · have hno : ¬ k < O.size := by rw [HS.out]; exact hlt
      have HD := Lib.hid (show decide (ix O b < 0) = true by
        refine ix_neg fun x hx => ?_
        rw [List.take_of_length_le (by have e : O.data.toList.length = O.size := by rw [Array.length_toList]; rfl
                                       omega)] at hall
        simpa using (List.all_eq_true.1 hall) x hx)
      clear hall
      go_wp2
      go_ret
      exact ⟨ret_bool HD.out.symm, rfl⟩

theorem isEmpty_size (x : ByteArray) : x.toList.isEmpty = decide (x.size < 1) := by
  rw [Lib.toList_data, Bool.eq_iff_iff, decide_eq_true_iff, List.isEmpty_iff]
  have e : x.data.toList.length = x.size := by rw [Array.length_toList]; rfl
  constructor
  · intro h; rw [h] at e; simp at e; omega
  · intro h; exact List.eq_nil_of_length_eq_zero (by omega)
def fineC (b : UInt8) : Bool := fineB b.toNat
theorem okE_eq (x : ByteArray) : okE x = (!bad0 x && x.data.toList.all fineC) := rfl

set_option maxRecDepth 100000 in
set_option maxHeartbeats 4000000 in
theorem valid01 (s : ByteArray) (hs : s.size ≤ 1048576) (w : World) : Calls Tryz.prog 68 #[.string s] w fun e w' => e = .returned (.bool (validB s)) ∧ Below w.heap.size w w' := by
  have hsz := elemsB_size s hs
  have hl := elems_len s hs
  by_cases h1 : s.size < 1
  · have e : validB s = false := by unfold validB; rw [isEmpty_size, decide_eq_true h1]; rfl
    rw [e]
    have h1' : (s.size : Int) < 1 := by omega
    clear e hsz hl
    go_enter Tryz.func68, Tryz.ntmps68
    go_wp2
    go_ret
    exact ⟨rfl, Below.refl _ _⟩
  by_cases h2 : (60 : Int) < s.size
  · have e : validB s = false := by unfold validB; rw [decide_eq_true h2]; simp
    rw [e]
    have h1' : ¬ (s.size : Int) < 1 := by omega
    clear e hsz hl
    go_enter Tryz.func68, Tryz.ntmps68
    go_wp2
    go_ret
    exact ⟨rfl, Below.refl _ _⟩
  have e : validB s = (elemsB s).all okE := by unfold validB; rw [isEmpty_size, decide_eq_false h1, decide_eq_false h2]; rfl
  have h1' : ¬ (s.size : Int) < 1 := by omega
  rw [e]
  clear e
  obtain ⟨xs, hxs⟩ : ∃ xs, elemsB s = xs := ⟨_, rfl⟩
  rw [hxs] at hsz hl ⊢
  have HX := Lib.hid hxs
  have HZ := Lib.hid hsz
  obtain ⟨n, hn⟩ : ∃ n, xs.length = n := ⟨_, rfl⟩
  rw [hn] at hl
  have HN := Lib.hid hn
  clear hxs hsz hn h1
  go_enter Tryz.func68, Tryz.ntmps68
  go_wp2_with (go_at_call 70; refine (elems01 s hs _).mono ?_; rw [HX.out]; rintro e1 w1 ⟨v1, rfl, hr1, hb1⟩; obtain ⟨A, ca, rfl, hA⟩ := rd_row hr1; rw [HN.out]; have HA := Lib.hid hA; clear hA hr1)
  go_loop [4] (fun i => ∃ k : Nat, i = .int .i64 k ∧ k ≤ n ∧ Hid (((xs.take k).all okE) = true)) (fun i => n - (intOf i).toNat)
  case atStart => exact ⟨0, rfl, Nat.zero_le _, Lib.hid rfl⟩
  case round =>
    obtain ⟨k, rfl, hk, HT⟩ := hrel
    by_cases hlt : k < n
    · have hl' : k < xs.length := by rw [HN.out]; exact hlt
      obtain ⟨g, rfl, c⟩ := HA.out k hl'
      have hx := HZ.out xs[k] (List.getElem_mem hl')
      have ht := take_all okE xs k hl' HT.out
      have HF := Lib.hid (all_false okE xs k hl')
      obtain ⟨x, hxe⟩ : ∃ x, xs[k] = x := ⟨_, rfl⟩
      rw [hxe] at c hx ht HF
      rw [okE_eq] at ht HF
      clear hxe hl'
      cases hb : bad0 x with
      | true =>
        have HS := Lib.hid (HF.out (by rw [hb]; rfl))
        clear ht HF
        unfold bad0 at hb
        rw [isEmpty_size] at hb
        by_cases b1 : x.size < 1
        · have b1' : (x.size : Int) < 1 := by omega
          clear hb b1
          go_wp2
          go_ret
          exact ⟨ret_bool HS.out.symm, hb1⟩
        have b1' : ¬ (x.size : Int) < 1 := by omega
        by_cases b2 : 30 < x.size
        · have b2' : (30 : Int) < x.size := by omega
          clear hb b1 b2
          go_wp2
          go_ret
          exact ⟨ret_bool HS.out.symm, hb1⟩
        have b2' : ¬ (30 : Int) < x.size := by omega
        cases b3 : x.toList == [46] with
        | true =>
          clear hb b1 b2
          go_wp2
          go_ret
          exact ⟨ret_bool HS.out.symm, hb1⟩
        | false =>
        cases b4 : x.toList == [46, 46] with
        | true =>
          clear hb b1 b2
          go_wp2
          go_ret
          exact ⟨ret_bool HS.out.symm, hb1⟩
        | false =>
          rw [decide_eq_false b1, decide_eq_false b2, b3, b4] at hb
          cases hb
      | false =>
        rw [hb] at ht HF
        have b1 : ¬ (x.size : Int) < 1 := fun h => by
          unfold bad0 at hb
          rw [isEmpty_size, decide_eq_true (show x.size < 1 by omega)] at hb
          cases hb
        have b2 : ¬ (30 : Int) < x.size := fun h => by
          unfold bad0 at hb
          rw [decide_eq_true (show 30 < x.size by omega)] at hb
          simp at hb
        have b3 : (x.toList == [46]) = false := by
          cases h : x.toList == [46] with
          | false => rfl
          | true => unfold bad0 at hb; rw [h] at hb; simp at hb
        have b4 : (x.toList == [46, 46]) = false := by
          cases h : x.toList == [46, 46] with
          | false => rfl
          | true => unfold bad0 at hb; rw [h] at hb; simp at hb
        have HTT := Lib.hid ht
        clear hb ht
        go_wp2
        go_loop [5] (fun i => ∃ j : Nat, i = .int .i64 j ∧ j ≤ x.size ∧ Hid (((x.data.toList.take j).all fineC) = true)) (fun i => x.size - (intOf i).toNat)
        case atStart => exact ⟨0, rfl, Nat.zero_le _, Lib.hid rfl⟩
        case round =>
          obtain ⟨j, rfl, hj, HJ⟩ := hrel
          by_cases hlj : j < x.size
          · have hsp := all_split fineC x j hlj HJ.out
            cases hf : fineC x[j] with
            | true =>
              rw [hf] at hsp
              have HP := Lib.hid hsp
              have HF1 := Lib.hid (show fineB x[j].toNat = true from hf)
              clear hsp hf
              go_wp2_with (go_at_call 100; refine (fine01 x[j] _).mono ?_; rw [HF1.out]; rintro e2 w2 ⟨rfl, rfl⟩)
              go_round
              case rel => exact ⟨j + 1, by go_num, by omega, HP⟩
              case measure => simp [intOf] <;> omega
            | false =>
              have HS := Lib.hid (HF.out (by
                have : x.data.toList.all fineC = false := by
                  rw [List.all_eq_false]
                  refine ⟨x[j], ?_, by rw [hf]; exact Bool.false_ne_true⟩
                  show x.data[j] ∈ x.data.toList
                  simp
                rw [this]; rfl))
              have HF1 := Lib.hid (show fineB x[j].toNat = false from hf)
              clear hsp hf HF
              go_wp2_with (go_at_call 100; refine (fine01 x[j] _).mono ?_; rw [HF1.out]; rintro e2 w2 ⟨rfl, rfl⟩)
              go_ret
              exact ⟨ret_bool HS.out.symm, hb1⟩
          · have HP := Lib.hid (show ((xs.take (k + 1)).all okE) = true by
              rw [HTT.out]
              have := HJ.out
              rw [List.take_of_length_le (by have e : x.data.toList.length = x.size := by rw [Array.length_toList]; rfl
                                             omega)] at this
              rw [this]; rfl)
            clear HF
            go_wp2
            go_round
            case rel => exact ⟨k + 1, by go_num, by omega, HP⟩
            case measure => simp [intOf] <;> omega
    · have HS := Lib.hid (show xs.all okE = true by
        have := HT.out
        rw [List.take_of_length_le (by have := HN.out; omega)] at this
        exact this)
      go_wp2
      go_ret
      exact ⟨ret_bool HS.out.symm, hb1⟩
end Go.Proofs.YtcfmaeonginefaaGreatDoor.Fine1
