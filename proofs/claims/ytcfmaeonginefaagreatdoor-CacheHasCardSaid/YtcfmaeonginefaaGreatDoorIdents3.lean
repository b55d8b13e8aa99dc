/- graftbedref03: identifiers: what it answers. -/
import Derived.Test.YtcfmaeonginefaaGreatDoorSplit3
namespace Go.Proofs.YtcfmaeonginefaaGreatDoor.Idents3
open Go Go.RowKit Go.Shelf Go.Proofs.YtcfmaeonginefaaGreatDoor.Seq Go.Proofs.YtcfmaeonginefaaGreatDoor.Cut Go.Proofs.YtcfmaeonginefaaGreatDoor.Elems Go.Proofs.YtcfmaeonginefaaGreatDoor.Paths Go.Proofs.YtcfmaeonginefaaGreatDoor.Made Go.Proofs.YtcfmaeonginefaaGreatDoor.Idents Go.Proofs.YtcfmaeonginefaaGreatDoor.Sign Go.Proofs.YtcfmaeonginefaaGreatDoor.Num3 Go.Proofs.YtcfmaeonginefaaGreatDoor.Split3
set_option linter.unusedSimpArgs false
set_option linter.unusedVariables false

theorem split46 (s : ByteArray) (hs : s.size ≤ 1048576) (w : World) : Calls Tryz.prog 75 #[.string s, .int .u8 46] w fun e w' => ∃ v, e = .returned v ∧ w'.ownsRow w.heap.size 9 1 v (splB 46 s).length ((splB 46 s).map Value.string) ∧ Below w.heap.size w w' := split3 s 46 hs w

def idOk (strict : Bool) (x : ByteArray) : Bool := everyB signB x && !(strict && noughtB x)
theorem take_all (p : ByteArray → Bool) (xs : List ByteArray) (i : Nat) (h : i < xs.length) (HA : ((xs.take i).all p) = true) : ((xs.take (i + 1)).all p) = p xs[i] := by
  rw [List.take_succ_eq_append_getElem h, List.all_append, HA]; simp
theorem all_false (p : ByteArray → Bool) (xs : List ByteArray) (i : Nat) (h : i < xs.length) (hp : p xs[i] = false) : xs.all p = false := by
  rw [← Bool.not_eq_true, List.all_eq_true]
  intro H
  rw [H _ (List.getElem_mem h)] at hp; cases hp
theorem spl_pos (c : UInt8) (s : ByteArray) : 0 < (splB c s).length := by
  have := spl_ne c s.data.toList
  unfold splB
  rw [List.length_map]
  exact List.length_pos_iff.2 this
theorem every_nil {p : UInt8 → Bool} {x : ByteArray} (h : x.toList.isEmpty = true) : everyB p x = false := by unfold everyB; rw [h]; simp
theorem every_all {p : UInt8 → Bool} {x : ByteArray} (h : x.toList.isEmpty = false) : everyB p x = x.data.toList.all p := by unfold everyB; rw [h]; simp

set_option maxRecDepth 100000 in
set_option maxHeartbeats 4000000 in
theorem identifiers3 (s : ByteArray) (strict : Bool) (hs : s.size ≤ 1048576) (w : World) : Calls Tryz.prog 101 #[.string s, .bool strict] w fun e w' => e = .returned (.bool ((splB 46 s).all (idOk strict))) ∧ Below w.heap.size w w' := by
  have hpos := spl_pos 46 s
  have hsz : ∀ x ∈ splB 46 s, x.size ≤ 1048576 := OrderPre.splB_size 46 s hs
  have hlen : (splB 46 s).length ≤ s.size + 1 := by
    unfold splB
    have := spl_length 46 s.data.toList
    have e : s.data.toList.length = s.size := by rw [Array.length_toList]; rfl
    rw [List.length_map]; omega
  generalize hxs : splB 46 s = xs at *
  have HXS := Lib.hid hxs
  clear hxs
  obtain ⟨n, hn⟩ : ∃ n, xs.length = n + 1 := ⟨xs.length - 1, by omega⟩
  go_enter Tryz.func101, Tryz.ntmps101
  go_wp2_with (go_at_call 75; refine (split46 s hs _).mono ?_; rw [HXS.out]; rintro e w1 ⟨v, rfl, hrow, hB⟩; rw [hn] at hrow; obtain ⟨g, cap, hv⟩ := ownsRow_succ hrow; subst hv)
  have hcell : ∀ (i : Nat) (h : i < xs.length), w1.cell? ⟨g, i, none⟩ = some (.string xs[i]) := fun i h => by
    rw [hrow.cellAt i (by omega)]
    simp [h]
  clear hrow
  go_loop [6] (fun iv => ∃ i : Nat, i ≤ n + 1 ∧ iv = .int .i64 i ∧ ((xs.take i).all (idOk strict)) = true) (fun iv => n + 1 - (intOf iv).toNat)
  case atStart => exact ⟨0, Nat.zero_le _, rfl, rfl⟩
  case round =>
    obtain ⟨i, hi, rfl, hall⟩ := hrel
    by_cases hlt : i < n + 1
    · have hl : i < xs.length := by omega
      have HT := Lib.hid (take_all (idOk strict) xs i hl hall)
      have HF := Lib.hid (all_false (idOk strict) xs i hl)
      have hc := hcell i hl
      have hxs := hsz xs[i] (List.getElem_mem hl)
      clear hall hcell hsz
      generalize xs[i] = x at *
      cases h1 : x.toList.isEmpty with
      | true =>
        have e := HF.out (by unfold idOk; rw [every_nil h1]; rfl)
        have HE := Lib.hid e
        clear e
        go_wp2
        go_ret
        exact ⟨ret_bool HE.out.symm, hB⟩
      | false =>
        cases strict with
        | false =>
          have HNS := Lib.hid (show (!(false && noughtB x)) = true from rfl)
          go_wp2
          go_loop [7] (fun kv => ∃ k : Nat, k ≤ x.size ∧ kv = .int .i64 k ∧ ((x.data.toList.take k).all signB) = true) (fun kv => x.size - (intOf kv).toNat)
          case atStart => exact ⟨0, Nat.zero_le _, rfl, rfl⟩
          case round =>
            obtain ⟨k, hk, rfl, hall2⟩ := hrel
            by_cases hlt2 : k < x.size
            · have HT2 := Lib.hid (all_split signB x k hlt2 hall2)
              clear hall2
              cases hd : digitB x[k] with
              | true =>
                have HD := Lib.hid hd
                have HS := Lib.hid (show signB x[k] = true by unfold signB; rw [hd]; rfl)
                clear hd
                go_wp2_with (first | (go_at_call 128; refine (digit3 x[k] _).mono ?_; rw [HD.out]; rintro e w' ⟨rfl, rfl⟩))
                go_round
                case rel => exact ⟨k + 1, by omega, by go_num, by rw [HT2.out]; exact HS.out⟩
                case measure => simp [intOf]; omega
              | false =>
                have HD := Lib.hid hd
                clear hd
                by_cases c1 : (x[k].toNat : Int) < 97
                · by_cases c2 : (x[k].toNat : Int) < 65
                  · by_cases c3 : (x[k].toNat : Int) = 45
                    · have c3' : ((x[k].toNat : Int) == 45) = true := by simpa using c3
                      have HS := Lib.hid (show signB x[k] = true by rw [sign_sign3]; unfold sign3B; simp; omega)
                      (try clear c3)
                      go_wp2_with (first | (go_at_call 128; refine (digit3 x[k] _).mono ?_; rw [HD.out]; rintro e w' ⟨rfl, rfl⟩))
                      go_round
                      case rel => exact ⟨k + 1, by omega, by go_num, by rw [HT2.out]; exact HS.out⟩
                      case measure => simp [intOf]; omega
                    · have c3' : ((x[k].toNat : Int) == 45) = false := by simpa using c3
                      have HS := Lib.hid (show signB x[k] = false by rw [sign_sign3]; unfold sign3B; rw [HD.out]; simp; omega)
                      have HE := Lib.hid (HF.out (by unfold idOk; rw [every_all h1, all_no signB x k hlt2 HS.out]; rfl))
                      (try clear c3)
                      go_wp2_with (first | (go_at_call 128; refine (digit3 x[k] _).mono ?_; rw [HD.out]; rintro e w' ⟨rfl, rfl⟩))
                      go_ret
                      exact ⟨ret_bool HE.out.symm, hB⟩
                  · by_cases c4 : (90 : Int) < x[k].toNat
                    · have c3' : ((x[k].toNat : Int) == 45) = false := by rw [beq_eq_false_iff_ne]; omega
                      have HS := Lib.hid (show signB x[k] = false by rw [sign_sign3]; unfold sign3B; rw [HD.out]; simp; omega)
                      have HE := Lib.hid (HF.out (by unfold idOk; rw [every_all h1, all_no signB x k hlt2 HS.out]; rfl))
                      (try clear c3)
                      go_wp2_with (first | (go_at_call 128; refine (digit3 x[k] _).mono ?_; rw [HD.out]; rintro e w' ⟨rfl, rfl⟩))
                      go_ret
                      exact ⟨ret_bool HE.out.symm, hB⟩
                    · have HS := Lib.hid (show signB x[k] = true by rw [sign_sign3]; unfold sign3B; simp; omega)
                      (try clear c3)
                      go_wp2_with (first | (go_at_call 128; refine (digit3 x[k] _).mono ?_; rw [HD.out]; rintro e w' ⟨rfl, rfl⟩))
                      go_round
                      case rel => exact ⟨k + 1, by omega, by go_num, by rw [HT2.out]; exact HS.out⟩
                      case measure => simp [intOf]; omega
                · by_cases c5 : (122 : Int) < x[k].toNat
                  · have c3' : ((x[k].toNat : Int) == 45) = false := by rw [beq_eq_false_iff_ne]; omega
                    have c2 : ¬ (x[k].toNat : Int) < 65 := by omega
                    have c4 : (90 : Int) < x[k].toNat := by omega
                    have HS := Lib.hid (show signB x[k] = false by rw [sign_sign3]; unfold sign3B; rw [HD.out]; simp; omega)
                    have HE := Lib.hid (HF.out (by unfold idOk; rw [every_all h1, all_no signB x k hlt2 HS.out]; rfl))
                    (try clear c3)
                    go_wp2_with (first | (go_at_call 128; refine (digit3 x[k] _).mono ?_; rw [HD.out]; rintro e w' ⟨rfl, rfl⟩))
                    go_ret
                    exact ⟨ret_bool HE.out.symm, hB⟩
                  · have HS := Lib.hid (show signB x[k] = true by rw [sign_sign3]; unfold sign3B; simp; omega)
                    (try clear c3)
                    go_wp2_with (first | (go_at_call 128; refine (digit3 x[k] _).mono ?_; rw [HD.out]; rintro e w' ⟨rfl, rfl⟩))
                    go_round
                    case rel => exact ⟨k + 1, by omega, by go_num, by rw [HT2.out]; exact HS.out⟩
                    case measure => simp [intOf]; omega
            · obtain rfl : k = x.size := by omega
              rw [List.take_of_length_le (by rw [Array.length_toList]; exact Nat.le_refl _)] at hall2
              have HY := Lib.hid (show idOk false x = true by unfold idOk; rw [every_all h1, hall2, HNS.out]; rfl)
              clear hall2
              go_wp2
              go_round
              case rel => exact ⟨i + 1, by omega, by go_num, by rw [HT.out]; exact HY.out⟩
              case measure => simp [intOf]; omega
        | true =>
          cases hd0 : everyB digitB x with
          | false =>
            have HNS := Lib.hid (show (!(true && noughtB x)) = true by
              have : noughtB x = false := by unfold noughtB; rw [hd0]; split <;> simp
              rw [this]; rfl)
            have HD0 := Lib.hid hd0
            clear hd0
            go_wp2_with (first | (exfalso; rename_i hu _; simp [undef] at hu; done) | (go_at_call 103; refine (digits3 x hxs _).mono ?_; rw [HD0.out]; rintro e w' ⟨rfl, rfl⟩))
            go_loop [7] (fun kv => ∃ k : Nat, k ≤ x.size ∧ kv = .int .i64 k ∧ ((x.data.toList.take k).all signB) = true) (fun kv => x.size - (intOf kv).toNat)
            case atStart => exact ⟨0, Nat.zero_le _, rfl, rfl⟩
            case round =>
              obtain ⟨k, hk, rfl, hall2⟩ := hrel
              by_cases hlt2 : k < x.size
              · have HT2 := Lib.hid (all_split signB x k hlt2 hall2)
                clear hall2
                cases hd : digitB x[k] with
                | true =>
                  have HD := Lib.hid hd
                  have HS := Lib.hid (show signB x[k] = true by unfold signB; rw [hd]; rfl)
                  clear hd
                  go_wp2_with (first | (go_at_call 128; refine (digit3 x[k] _).mono ?_; rw [HD.out]; rintro e w' ⟨rfl, rfl⟩))
                  go_round
                  case rel => exact ⟨k + 1, by omega, by go_num, by rw [HT2.out]; exact HS.out⟩
                  case measure => simp [intOf]; omega
                | false =>
                  have HD := Lib.hid hd
                  clear hd
                  by_cases c1 : (x[k].toNat : Int) < 97
                  · by_cases c2 : (x[k].toNat : Int) < 65
                    · by_cases c3 : (x[k].toNat : Int) = 45
                      · have c3' : ((x[k].toNat : Int) == 45) = true := by simpa using c3
                        have HS := Lib.hid (show signB x[k] = true by rw [sign_sign3]; unfold sign3B; simp; omega)
                        (try clear c3)
                        go_wp2_with (first | (go_at_call 128; refine (digit3 x[k] _).mono ?_; rw [HD.out]; rintro e w' ⟨rfl, rfl⟩))
                        go_round
                        case rel => exact ⟨k + 1, by omega, by go_num, by rw [HT2.out]; exact HS.out⟩
                        case measure => simp [intOf]; omega
                      · have c3' : ((x[k].toNat : Int) == 45) = false := by simpa using c3
                        have HS := Lib.hid (show signB x[k] = false by rw [sign_sign3]; unfold sign3B; rw [HD.out]; simp; omega)
                        have HE := Lib.hid (HF.out (by unfold idOk; rw [every_all h1, all_no signB x k hlt2 HS.out]; rfl))
                        (try clear c3)
                        go_wp2_with (first | (go_at_call 128; refine (digit3 x[k] _).mono ?_; rw [HD.out]; rintro e w' ⟨rfl, rfl⟩))
                        go_ret
                        exact ⟨ret_bool HE.out.symm, hB⟩
                    · by_cases c4 : (90 : Int) < x[k].toNat
                      · have c3' : ((x[k].toNat : Int) == 45) = false := by rw [beq_eq_false_iff_ne]; omega
                        have HS := Lib.hid (show signB x[k] = false by rw [sign_sign3]; unfold sign3B; rw [HD.out]; simp; omega)
                        have HE := Lib.hid (HF.out (by unfold idOk; rw [every_all h1, all_no signB x k hlt2 HS.out]; rfl))
                        (try clear c3)
                        go_wp2_with (first | (go_at_call 128; refine (digit3 x[k] _).mono ?_; rw [HD.out]; rintro e w' ⟨rfl, rfl⟩))
                        go_ret
                        exact ⟨ret_bool HE.out.symm, hB⟩
                      · have HS := Lib.hid (show signB x[k] = true by rw [sign_sign3]; unfold sign3B; simp; omega)
                        (try clear c3)
                        go_wp2_with (first | (go_at_call 128; refine (digit3 x[k] _).mono ?_; rw [HD.out]; rintro e w' ⟨rfl, rfl⟩))
                        go_round
                        case rel => exact ⟨k + 1, by omega, by go_num, by rw [HT2.out]; exact HS.out⟩
                        case measure => simp [intOf]; omega
                  · by_cases c5 : (122 : Int) < x[k].toNat
                    · have c3' : ((x[k].toNat : Int) == 45) = false := by rw [beq_eq_false_iff_ne]; omega
                      have c2 : ¬ (x[k].toNat : Int) < 65 := by omega
                      have c4 : (90 : Int) < x[k].toNat := by omega
                      have HS := Lib.hid (show signB x[k] = false by rw [sign_sign3]; unfold sign3B; rw [HD.out]; simp; omega)
                      have HE := Lib.hid (HF.out (by unfold idOk; rw [every_all h1, all_no signB x k hlt2 HS.out]; rfl))
                      (try clear c3)
                      go_wp2_with (first | (go_at_call 128; refine (digit3 x[k] _).mono ?_; rw [HD.out]; rintro e w' ⟨rfl, rfl⟩))
                      go_ret
                      exact ⟨ret_bool HE.out.symm, hB⟩
                    · have HS := Lib.hid (show signB x[k] = true by rw [sign_sign3]; unfold sign3B; simp; omega)
                      (try clear c3)
                      go_wp2_with (first | (go_at_call 128; refine (digit3 x[k] _).mono ?_; rw [HD.out]; rintro e w' ⟨rfl, rfl⟩))
                      go_round
                      case rel => exact ⟨k + 1, by omega, by go_num, by rw [HT2.out]; exact HS.out⟩
                      case measure => simp [intOf]; omega
              · obtain rfl : k = x.size := by omega
                rw [List.take_of_length_le (by rw [Array.length_toList]; exact Nat.le_refl _)] at hall2
                have HY := Lib.hid (show idOk true x = true by unfold idOk; rw [every_all h1, hall2, HNS.out]; rfl)
                clear hall2
                go_wp2
                go_round
                case rel => exact ⟨i + 1, by omega, by go_num, by rw [HT.out]; exact HY.out⟩
                case measure => simp [intOf]; omega
          | true =>
            have HD0 := Lib.hid hd0
            by_cases hg : 1 < x.size
            · have hg' : (1 : Int) < x.size := by omega
              by_cases h0 : (x[0].toNat : Int) = 48
              · have hn0 : noughtB x = true := by unfold noughtB; rw [dif_pos hg, decide_eq_true h0, hd0]; rfl
                have HE := Lib.hid (HF.out (by unfold idOk; rw [hn0]; simp))
                have h0' : ((x[0].toNat : Int) == 48) = true := by simpa using h0
                clear hd0 hn0 h0
                go_wp2_with (first | (exfalso; rename_i hu _; simp [undef] at hu; done) | (go_at_call 103; refine (digits3 x hxs _).mono ?_; rw [HD0.out]; rintro e w' ⟨rfl, rfl⟩))
                go_ret
                exact ⟨ret_bool HE.out.symm, hB⟩
              · have HNS := Lib.hid (show (!(true && noughtB x)) = true by
                  have : noughtB x = false := by unfold noughtB; rw [dif_pos hg, decide_eq_false h0]; rfl
                  rw [this]; rfl)
                have h0' : ((x[0].toNat : Int) == 48) = false := by simpa using h0
                clear hd0 h0
                go_wp2_with (first | (exfalso; rename_i hu _; simp [undef] at hu; done) | (go_at_call 103; refine (digits3 x hxs _).mono ?_; rw [HD0.out]; rintro e w' ⟨rfl, rfl⟩))
                go_loop [7] (fun kv => ∃ k : Nat, k ≤ x.size ∧ kv = .int .i64 k ∧ ((x.data.toList.take k).all signB) = true) (fun kv => x.size - (intOf kv).toNat)
                case atStart => exact ⟨0, Nat.zero_le _, rfl, rfl⟩
                case round =>
                  obtain ⟨k, hk, rfl, hall2⟩ := hrel
                  by_cases hlt2 : k < x.size
                  · have HT2 := Lib.hid (all_split signB x k hlt2 hall2)
                    clear hall2
                    cases hd : digitB x[k] with
                    | true =>
                      have HD := Lib.hid hd
                      have HS := Lib.hid (show signB x[k] = true by unfold signB; rw [hd]; rfl)
                      clear hd
                      go_wp2_with (first | (go_at_call 128; refine (digit3 x[k] _).mono ?_; rw [HD.out]; rintro e w' ⟨rfl, rfl⟩))
                      go_round
                      case rel => exact ⟨k + 1, by omega, by go_num, by rw [HT2.out]; exact HS.out⟩
                      case measure => simp [intOf]; omega
                    | false =>
                      have HD := Lib.hid hd
                      clear hd
                      by_cases c1 : (x[k].toNat : Int) < 97
                      · by_cases c2 : (x[k].toNat : Int) < 65
                        · by_cases c3 : (x[k].toNat : Int) = 45
                          · have c3' : ((x[k].toNat : Int) == 45) = true := by simpa using c3
                            have HS := Lib.hid (show signB x[k] = true by rw [sign_sign3]; unfold sign3B; simp; omega)
                            (try clear c3)
                            go_wp2_with (first | (go_at_call 128; refine (digit3 x[k] _).mono ?_; rw [HD.out]; rintro e w' ⟨rfl, rfl⟩))
                            go_round
                            case rel => exact ⟨k + 1, by omega, by go_num, by rw [HT2.out]; exact HS.out⟩
                            case measure => simp [intOf]; omega
                          · have c3' : ((x[k].toNat : Int) == 45) = false := by simpa using c3
                            have HS := Lib.hid (show signB x[k] = false by rw [sign_sign3]; unfold sign3B; rw [HD.out]; simp; omega)
                            have HE := Lib.hid (HF.out (by unfold idOk; rw [every_all h1, all_no signB x k hlt2 HS.out]; rfl))
                            (try clear c3)
                            go_wp2_with (first | (go_at_call 128; refine (digit3 x[k] _).mono ?_; rw [HD.out]; rintro e w' ⟨rfl, rfl⟩))
                            go_ret
                            exact ⟨ret_bool HE.out.symm, hB⟩
                        · by_cases c4 : (90 : Int) < x[k].toNat
                          · have c3' : ((x[k].toNat : Int) == 45) = false := by rw [beq_eq_false_iff_ne]; omega
                            have HS := Lib.hid (show signB x[k] = false by rw [sign_sign3]; unfold sign3B; rw [HD.out]; simp; omega)
                            have HE := Lib.hid (HF.out (by unfold idOk; rw [every_all h1, all_no signB x k hlt2 HS.out]; rfl))
                            (try clear c3)
                            go_wp2_with (first | (go_at_call 128; refine (digit3 x[k] _).mono ?_; rw [HD.out]; rintro e w' ⟨rfl, rfl⟩))
                            go_ret
                            exact ⟨ret_bool HE.out.symm, hB⟩
                          · have HS := Lib.hid (show signB x[k] = true by rw [sign_sign3]; unfold sign3B; simp; omega)
                            (try clear c3)
                            go_wp2_with (first | (go_at_call 128; refine (digit3 x[k] _).mono ?_; rw [HD.out]; rintro e w' ⟨rfl, rfl⟩))
                            go_round
                            case rel => exact ⟨k + 1, by omega, by go_num, by rw [HT2.out]; exact HS.out⟩
                            case measure => simp [intOf]; omega
                      · by_cases c5 : (122 : Int) < x[k].toNat
                        · have c3' : ((x[k].toNat : Int) == 45) = false := by rw [beq_eq_false_iff_ne]; omega
                          have c2 : ¬ (x[k].toNat : Int) < 65 := by omega
                          have c4 : (90 : Int) < x[k].toNat := by omega
                          have HS := Lib.hid (show signB x[k] = false by rw [sign_sign3]; unfold sign3B; rw [HD.out]; simp; omega)
                          have HE := Lib.hid (HF.out (by unfold idOk; rw [every_all h1, all_no signB x k hlt2 HS.out]; rfl))
                          (try clear c3)
                          go_wp2_with (first | (go_at_call 128; refine (digit3 x[k] _).mono ?_; rw [HD.out]; rintro e w' ⟨rfl, rfl⟩))
                          go_ret
                          exact ⟨ret_bool HE.out.symm, hB⟩
                        · have HS := Lib.hid (show signB x[k] = true by rw [sign_sign3]; unfold sign3B; simp; omega)
                          (try clear c3)
                          go_wp2_with (first | (go_at_call 128; refine (digit3 x[k] _).mono ?_; rw [HD.out]; rintro e w' ⟨rfl, rfl⟩))
                          go_round
                          case rel => exact ⟨k + 1, by omega, by go_num, by rw [HT2.out]; exact HS.out⟩
                          case measure => simp [intOf]; omega
                  · obtain rfl : k = x.size := by omega
                    rw [List.take_of_length_le (by rw [Array.length_toList]; exact Nat.le_refl _)] at hall2
                    have HY := Lib.hid (show idOk true x = true by unfold idOk; rw [every_all h1, hall2, HNS.out]; rfl)
                    clear hall2
                    go_wp2
                    go_round
                    case rel => exact ⟨i + 1, by omega, by go_num, by rw [HT.out]; exact HY.out⟩
                    case measure => simp [intOf]; omega
            · have hg' : ¬ (1 : Int) < x.size := by omega
              have HNS := Lib.hid (show (!(true && noughtB x)) = true by
                have : noughtB x = false := by unfold noughtB; rw [dif_neg hg]
                rw [this]; rfl)
              clear hd0
              go_wp2_with (first | (exfalso; rename_i hu _; simp [undef] at hu; done) | (go_at_call 103; refine (digits3 x hxs _).mono ?_; rw [HD0.out]; rintro e w' ⟨rfl, rfl⟩))
              go_loop [7] (fun kv => ∃ k : Nat, k ≤ x.size ∧ kv = .int .i64 k ∧ ((x.data.toList.take k).all signB) = true) (fun kv => x.size - (intOf kv).toNat)
              case atStart => exact ⟨0, Nat.zero_le _, rfl, rfl⟩
              case round =>
                obtain ⟨k, hk, rfl, hall2⟩ := hrel
                by_cases hlt2 : k < x.size
                · have HT2 := Lib.hid (all_split signB x k hlt2 hall2)
                  clear hall2
                  cases hd : digitB x[k] with
                  | true =>
                    have HD := Lib.hid hd
                    have HS := Lib.hid (show signB x[k] = true by unfold signB; rw [hd]; rfl)
                    clear hd
                    go_wp2_with (first | (go_at_call 128; refine (digit3 x[k] _).mono ?_; rw [HD.out]; rintro e w' ⟨rfl, rfl⟩))
                    go_round
                    case rel => exact ⟨k + 1, by omega, by go_num, by rw [HT2.out]; exact HS.out⟩
                    case measure => simp [intOf]; omega
                  | false =>
                    have HD := Lib.hid hd
                    clear hd
                    by_cases c1 : (x[k].toNat : Int) < 97
                    · by_cases c2 : (x[k].toNat : Int) < 65
                      · by_cases c3 : (x[k].toNat : Int) = 45
                        · have c3' : ((x[k].toNat : Int) == 45) = true := by simpa using c3
                          have HS := Lib.hid (show signB x[k] = true by rw [sign_sign3]; unfold sign3B; simp; omega)
                          (try clear c3)
                          go_wp2_with (first | (go_at_call 128; refine (digit3 x[k] _).mono ?_; rw [HD.out]; rintro e w' ⟨rfl, rfl⟩))
                          go_round
                          case rel => exact ⟨k + 1, by omega, by go_num, by rw [HT2.out]; exact HS.out⟩
                          case measure => simp [intOf]; omega
                        · have c3' : ((x[k].toNat : Int) == 45) = false := by simpa using c3
                          have HS := Lib.hid (show signB x[k] = false by rw [sign_sign3]; unfold sign3B; rw [HD.out]; simp; omega)
                          have HE := Lib.hid (HF.out (by unfold idOk; rw [every_all h1, all_no signB x k hlt2 HS.out]; rfl))
                          (try clear c3)
                          go_wp2_with (first | (go_at_call 128; refine (digit3 x[k] _).mono ?_; rw [HD.out]; rintro e w' ⟨rfl, rfl⟩))
                          go_ret
                          exact ⟨ret_bool HE.out.symm, hB⟩
                      · by_cases c4 : (90 : Int) < x[k].toNat
                        · have c3' : ((x[k].toNat : Int) == 45) = false := by rw [beq_eq_false_iff_ne]; omega
                          have HS := Lib.hid (show signB x[k] = false by rw [sign_sign3]; unfold sign3B; rw [HD.out]; simp; omega)
                          have HE := Lib.hid (HF.out (by unfold idOk; rw [every_all h1, all_no signB x k hlt2 HS.out]; rfl))
                          (try clear c3)
                          go_wp2_with (first | (go_at_call 128; refine (digit3 x[k] _).mono ?_; rw [HD.out]; rintro e w' ⟨rfl, rfl⟩))
                          go_ret
                          exact ⟨ret_bool HE.out.symm, hB⟩
                        · have HS := Lib.hid (show signB x[k] = true by rw [sign_sign3]; unfold sign3B; simp; omega)
                          (try clear c3)
                          go_wp2_with (first | (go_at_call 128; refine (digit3 x[k] _).mono ?_; rw [HD.out]; rintro e w' ⟨rfl, rfl⟩))
                          go_round
                          case rel => exact ⟨k + 1, by omega, by go_num, by rw [HT2.out]; exact HS.out⟩
                          case measure => simp [intOf]; omega
                    · by_cases c5 : (122 : Int) < x[k].toNat
                      · have c3' : ((x[k].toNat : Int) == 45) = false := by rw [beq_eq_false_iff_ne]; omega
                        have c2 : ¬ (x[k].toNat : Int) < 65 := by omega
                        have c4 : (90 : Int) < x[k].toNat := by omega
                        have HS := Lib.hid (show signB x[k] = false by rw [sign_sign3]; unfold sign3B; rw [HD.out]; simp; omega)
                        have HE := Lib.hid (HF.out (by unfold idOk; rw [every_all h1, all_no signB x k hlt2 HS.out]; rfl))
                        (try clear c3)
                        go_wp2_with (first | (go_at_call 128; refine (digit3 x[k] _).mono ?_; rw [HD.out]; rintro e w' ⟨rfl, rfl⟩))
                        go_ret
                        exact ⟨ret_bool HE.out.symm, hB⟩
                      · have HS := Lib.hid (show signB x[k] = true by rw [sign_sign3]; unfold sign3B; simp; omega)
                        (try clear c3)
                        go_wp2_with (first | (go_at_call 128; refine (digit3 x[k] _).mono ?_; rw [HD.out]; rintro e w' ⟨rfl, rfl⟩))
                        go_round
                        case rel => exact ⟨k + 1, by omega, by go_num, by rw [HT2.out]; exact HS.out⟩
                        case measure => simp [intOf]; omega
                · obtain rfl : k = x.size := by omega
                  rw [List.take_of_length_le (by rw [Array.length_toList]; exact Nat.le_refl _)] at hall2
                  have HY := Lib.hid (show idOk true x = true by unfold idOk; rw [every_all h1, hall2, HNS.out]; rfl)
                  clear hall2
                  go_wp2
                  go_round
                  case rel => exact ⟨i + 1, by omega, by go_num, by rw [HT.out]; exact HY.out⟩
                  case measure => simp [intOf]; omega
    · obtain rfl : i = n + 1 := by omega
      rw [List.take_of_length_le (by omega)] at hall
      have HA := Lib.hid hall
      clear hall
      go_wp2
      go_ret
      exact ⟨ret_bool HA.out.symm, hB⟩
end Go.Proofs.YtcfmaeonginefaaGreatDoor.Idents3
