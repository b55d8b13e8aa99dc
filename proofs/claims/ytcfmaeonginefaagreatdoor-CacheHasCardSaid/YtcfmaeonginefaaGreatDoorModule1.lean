/- graftbedref01.Module: what it answers. -/
import Derived.Test.YtcfmaeonginefaaGreatDoorMade1
import Derived.Test.YtcfmaeonginefaaGreatDoorModule
import Derived.IntWalk
namespace Go.Proofs.YtcfmaeonginefaaGreatDoor.Module1
open Go Go.RowKit Go.Shelf Go.Proofs.YtcfmaeonginefaaGreatDoor.Seq Go.Proofs.YtcfmaeonginefaaGreatDoor.Cut Go.Proofs.YtcfmaeonginefaaGreatDoor.Elems Go.Proofs.YtcfmaeonginefaaGreatDoor.Paths Go.Proofs.YtcfmaeonginefaaGreatDoor.Made Go.Proofs.YtcfmaeonginefaaGreatDoor.Module Go.Proofs.YtcfmaeonginefaaGreatDoor.Idents Go.Proofs.YtcfmaeonginefaaGreatDoor.Num3 Go.Proofs.YtcfmaeonginefaaGreatDoor.Split3 Go.Proofs.YtcfmaeonginefaaGreatDoor.Idents3 Go.Proofs.YtcfmaeonginefaaGreatDoor.Hand01 Go.Proofs.YtcfmaeonginefaaGreatDoor.PathCmp Go.Proofs.YtcfmaeonginefaaGreatDoor.Fine1 Go.Proofs.YtcfmaeonginefaaGreatDoor.Made1
set_option linter.unusedSimpArgs false
set_option linter.unusedVariables false

theorem size_list (s : ByteArray) : s.data.toList.length = s.size := lenS s
theorem drop_cons (s : ByteArray) (i : Nat) (h : i < s.size) : s.data.toList.drop i = (s.data.toList[i]'(by rw [size_list]; exact h)) :: s.data.toList.drop (i + 1) :=
  List.drop_eq_getElem_cons (by rw [size_list]; exact h)
def first (x : ByteArray) (c : Int) : Bool := if h : 0 < x.size then decide ((x[0].toNat : Int) = c) else false
theorem okE_pos {x : ByteArray} (h : okE x = true) : 0 < x.size := by
  rcases Nat.eq_zero_or_pos x.size with e | e
  · exfalso
    obtain ⟨⟨l⟩⟩ := x
    cases l with
    | nil =>
      have : (⟨#[]⟩ : ByteArray).toList.isEmpty = true := by decide +kernel
      unfold okE bad0 at h
      rw [this] at h
      simp at h
    | cons a t => exact absurd e (by simp [ByteArray.size])
  · exact e
def last (x : ByteArray) (c : Int) : Bool := if h : 0 < x.size then decide ((x[x.size - 1].toNat : Int) = c) else false
theorem first_eq (x : ByteArray) (h : 0 < x.size) (c : UInt8) : first x c.toNat = decide (x[0] = c) := by
  unfold first; rw [dif_pos h, Bool.eq_iff_iff, decide_eq_true_iff, decide_eq_true_iff, ← UInt8.toNat_inj]; omega
theorem prefix_first (x : ByteArray) (h : 0 < x.size) : Lib.hasPrefix x.data.toList [46] = first x 46 := by
  obtain ⟨⟨l⟩⟩ := x
  cases l with
  | nil => simp [ByteArray.size] at h
  | cons a t =>
    have e := first_eq ⟨⟨a :: t⟩⟩ h 46
    have e46 : ((46 : UInt8).toNat : Int) = 46 := rfl
    rw [e46] at e
    rw [e]
    show ((46 : UInt8) == a && List.isPrefixOf [] t) = decide (a = 46)
    have e2 : List.isPrefixOf ([] : List UInt8) t = true := by cases t <;> rfl
    rw [e2, Bool.and_true, Bool.eq_iff_iff, beq_iff_eq, decide_eq_true_iff]
    exact eq_comm
theorem get_list (x : ByteArray) (i : Nat) (h : i < x.size) : x[i] = x.data.toList[i]'(by rw [size_list]; exact h) := rfl
theorem suffix_last (x : ByteArray) (h : 0 < x.size) : Lib.hasSuffix x.data.toList [46] = last x 46 := by
  unfold last; rw [dif_pos h, get_list x (x.size - 1) (by omega)]
  rw [← Lib.hasSuffix_of_drop]
  have hl := size_list x
  have e : x.data.toList.drop (x.size - 1) = [x.data.toList[x.size - 1]'(by omega)] := by
    rw [drop_cons x (x.size - 1) (by omega), List.drop_of_length_le (by omega)]
  have e1 : decide ([(46 : UInt8)].length ≤ x.data.toList.length) = true := decide_eq_true (by simp; omega)
  rw [e1, Bool.true_and]
  show (x.data.toList.drop (x.data.toList.length - 1) == [46]) = _
  rw [show x.data.toList.length - 1 = x.size - 1 by omega, e, Bool.eq_iff_iff, decide_eq_true_iff, beq_iff_eq]
  constructor
  · intro h; injection h with h _; rw [h]; rfl
  · intro h
    have h46 : (46 : UInt8).toNat = 46 := rfl
    rw [UInt8.toNat_inj.1 (show (x.data.toList[x.size - 1]'(by omega)).toNat = (46 : UInt8).toNat by omega)]
theorem okM_eq (x : ByteArray) (h : 0 < x.size) : okM x = (!(first x 46 || last x 46)) := by unfold okM; rw [prefix_first x h, suffix_last x h]
theorem elems_head (s : ByteArray) (hv : validB s = true) : ∃ t, elemsB s = (cutB s 47).1 :: t := by
  unfold validB at hv
  rw [Bool.and_eq_true, Bool.not_eq_true', Bool.or_eq_false_iff] at hv
  unfold elemsB rest
  rw [hv.1.1]
  exact ⟨_, splB_cut 47 s⟩
theorem elems_fine (s : ByteArray) (hs : s.size ≤ 1048576) (hv : validB s = true) : ∀ x, x ∈ elemsB s → 0 < x.size ∧ x.size ≤ 1048576 := fun x hx => by
  unfold validB at hv
  rw [Bool.and_eq_true] at hv
  exact ⟨okE_pos (List.all_eq_true.1 hv.2 x hx), elemsB_size s hs x hx⟩
theorem cut_first (s : ByteArray) (h : 0 < (cutB s 47).1.size) (hs : 0 < s.size) : first (cutB s 47).1 45 = dash s := by
  unfold first dash
  rw [dif_pos h, dif_pos hs]
  have : (cutB s 47).1[0] = s[0] := by
    by_cases hi : 0 ≤ ix s 47
    · have e : (cutB s 47).1 = s.extract 0 (ix s 47).toNat := by unfold cutB; rw [if_pos hi]
      have key : ∀ y : ByteArray, (hy : y = s.extract 0 (ix s 47).toNat) → (hp : 0 < y.size) → y[0] = s[0] := by
        rintro _ rfl hp
        have hd : (s.extract 0 (ix s 47).toNat).data.toList = (s.data.toList.drop 0).take ((ix s 47).toNat - 0) := Lib.extract_data s 0 _
        rw [get_list _ 0 hp, get_list s 0 hs]
        simp only [hd, List.drop_zero, List.getElem_take]
      exact key _ e h
    · have e : (cutB s 47).1 = s := by unfold cutB; rw [if_neg hi]
      have key : ∀ y : ByteArray, (hy : y = s) → (hp : 0 < y.size) → y[0] = s[0] := by
        rintro _ rfl hp; rfl
      exact key _ e h
  rw [this]

theorem any_ix (x : ByteArray) (c : UInt8) : x.data.toList.any (· == c) = decide (0 ≤ ix x c) := by
  cases h : x.data.toList.any (· == c) with
  | true =>
    obtain ⟨b, hb, e⟩ := List.any_eq_true.1 h
    obtain ⟨k, hk, rfl⟩ := List.getElem_of_mem hb
    rw [size_list] at hk
    have e' : x.data.toList[k]'(by rw [size_list]; exact hk) = c := by simpa using e
    have := ix_pos (s := x) (b := c) k hk e'
    simp at this ⊢
    exact this
  | false =>
    have := ix_neg (s := x) (b := c) (fun y hy e => by
      have := List.any_eq_false.1 h y hy
      simp [e] at this)
    simp at this ⊢
    exact this

set_option maxRecDepth 100000 in
set_option maxHeartbeats 8000000 in
theorem module01 (s : ByteArray) (hs : s.size ≤ 1048576) (w : World) : Calls Tryz.prog 36 #[.string s] w fun e w' => e = .returned (.int .i64 (errB (moduleB s))) ∧ Below w.heap.size w w' := by
  have hml := made_low s
  cases hv : validB s with
  | false =>
    have e : moduleB s = false := by simp only [moduleB, hv, Bool.false_and]
    have HV := Lib.hid hv
    clear hv hml
    rw [errB_no e]
    clear e
    go_enter Tryz.func36, Tryz.ntmps36
    go_wp2_with (first
      | (exfalso; rename_i hu _; simp [undef] at hu; done)
      | (go_at_call 68; refine (valid01 s hs _).mono ?_; rw [HV.out]; rintro e w1 ⟨rfl, hb1⟩))
    go_ret
    exact ⟨rfl, hb1⟩
  | true =>
  cases hm : madeB s ⟨#[]⟩ with
  | false =>
    have e : moduleB s = false := by simp only [moduleB, hm, Bool.false_and, Bool.and_false]
    have HV := Lib.hid hv
    rw [hm] at hml
    have HM := Lib.hid hml
    clear hv hm hml
    rw [errB_no e]
    clear e
    go_enter Tryz.func36, Tryz.ntmps36
    go_wp2_with (first
      | (exfalso; rename_i hu _; simp [undef] at hu; done)
      | (go_at_call 68; refine (valid01 s hs _).mono ?_; rw [HV.out]; rintro e w1 ⟨rfl, hb1⟩)
      | (go_at_call 69; refine (made01 s ⟨#[45, 46, 95, 126, 47]⟩ false hs (by decide) _).mono ?_; rw [HM.out]; rintro e w2 ⟨rfl, rfl⟩))
    go_ret
    exact ⟨rfl, hb1⟩
  | true =>
  rw [hm] at hml
  obtain ⟨t, ht⟩ := elems_head s hv
  have hf := elems_fine s hs hv
  have hpos : 0 < s.size := by have := valid_size s hv; omega
  have hx0 := hf (cutB s 47).1 (by rw [ht]; simp)
  have e : moduleB s = (((cutB s 47).1.data.toList.any (· == 46)) && !first (cutB s 47).1 45 && (elemsB s).all okM) := by
    rw [any_ix, cut_first s hx0.1 hpos]
    simp only [moduleB, hv, hm, Bool.and_self, Bool.true_and]
    cases dash s <;> simp
  rw [e]
  obtain ⟨R, hR⟩ : ∃ R, errB (((cutB s 47).1.data.toList.any (· == 46)) && !first (cutB s 47).1 45 && (elemsB s).all okM) = R := ⟨_, rfl⟩
  rw [hR]
  obtain ⟨x0, hx⟩ : ∃ x, (cutB s 47).1 = x := ⟨_, rfl⟩
  rw [hx] at ht hx0 hR
  obtain ⟨xs, hxs⟩ : ∃ xs, elemsB s = xs := ⟨_, rfl⟩
  rw [hxs] at ht hf hR
  have HR := Lib.hid hR
  have hn0 : xs.length = t.length + 1 := by rw [ht]; rfl
  have hl := elems_len s hs
  rw [hxs] at hl
  obtain ⟨n, hn⟩ : ∃ n, t.length = n := ⟨_, rfl⟩
  rw [hn] at hn0
  rw [hn0] at hl
  have h00 : ∀ h : 0 < xs.length, xs[0] = x0 := fun h => by simp only [ht]; rfl
  have HX := Lib.hid hxs
  have HF := Lib.hid hf
  have HN := Lib.hid hn0
  have H00 := Lib.hid h00
  have HV := Lib.hid hv
  have HM := Lib.hid hml
  obtain ⟨hp0, hs0⟩ := hx0
  clear hv hm hml ht hf hpos e hx hxs hn0 hn h00 hR
  go_enter Tryz.func36, Tryz.ntmps36
  go_wp2_with (first
    | (exfalso; rename_i hu _; simp [undef] at hu; done)
    | (go_at_call 68; refine (valid01 s hs _).mono ?_; rw [HV.out]; rintro e w1 ⟨rfl, hb1⟩)
    | (go_at_call 69; refine (made01 s ⟨#[45, 46, 95, 126, 47]⟩ false hs (by decide) _).mono ?_; rw [HM.out]; rintro e w2 ⟨rfl, rfl⟩)
    | (go_at_call 70; refine (elems01 s hs _).mono ?_; rw [HX.out]; rintro e1 w3 ⟨v1, rfl, hr1, hb3⟩; obtain ⟨A, ca, rfl, hA⟩ := rd_row hr1; obtain ⟨g0, rfl, c00⟩ := hA 0 (by rw [HN.out]; omega); rw [H00.out] at c00; rw [HN.out]; have HA := Lib.hid hA; clear hA hr1))
  have hbw : Below w.heap.size w w3 := hb1.trans (hb3.mono hb1.size)
  clear hb1 hb3
  have z0 : (0 : Int) < n + 1 := by omega
  go_loop [4, 5] (fun v4 i => ∃ (j : Nat) (v : Bool), i = .int .i64 j ∧ j ≤ x0.size ∧ v4 = .bool v ∧ Hid (v = (x0.data.toList.take j).any (· == 46))) (fun _ i => x0.size - (intOf i).toNat)
  case atStart => exact ⟨0, false, rfl, Nat.zero_le _, rfl, Lib.hid rfl⟩
  case round =>
    obtain ⟨j, v, rfl, hj, rfl, HV4⟩ := hrel
    by_cases hlj : j < x0.size
    · have HA2 := Lib.hid (any_step x0.data.toList 46 j (by rw [lenS]; exact hlj))
      have H46 := Lib.hid (show ((x0[j].toNat : Int) == 46) = (x0[j] == 46) from beq_nat x0[j] 46)
      cases v with
      | true =>
        go_wp2
        go_round
        case rel => exact ⟨j + 1, true, by go_num, by omega, rfl, Lib.hid (by rw [HA2.out, ← HV4.out]; rfl)⟩
        case measure => simp [intOf] <;> omega
      | false =>
        go_wp2
        go_round
        case rel => exact ⟨j + 1, _, by go_num, by omega, rfl, Lib.hid (by rw [HA2.out, ← HV4.out, H46.out]; rfl)⟩
        case measure => simp [intOf] <;> omega
    · have HD := Lib.hid (show x0.data.toList.any (· == 46) = v by rw [HV4.out, List.take_of_length_le (by rw [lenS]; omega)])
      cases v with
      | false =>
        have HS := Lib.hid (show R = 10 by rw [← HR.out, HD.out]; rfl)
        go_wp2_with (first | (exfalso; rename_i hu _; simp [undef] at hu; done))
        go_ret
        exact ⟨ret_num HS.out.symm, hbw⟩
      | true =>
        by_cases h45 : (x0[0].toNat : Int) = 45
        · have HS := Lib.hid (show R = 10 by rw [← HR.out, HD.out]; unfold first; rw [dif_pos hp0, decide_eq_true h45]; rfl)
          have q45 : ((x0[0].toNat : Int) == 45) = true := by simpa using h45
          clear h45
          go_wp2_with (first | (exfalso; rename_i hu _; simp [undef] at hu; done))
          go_ret
          exact ⟨ret_num HS.out.symm, hbw⟩
        · have HS := Lib.hid (show R = errB (xs.all okM) by rw [← HR.out, HD.out]; unfold first; rw [dif_pos hp0, decide_eq_false h45]; rfl)
          have q45 : ((x0[0].toNat : Int) == 45) = false := by simpa using h45
          clear h45
          go_wp2_with (first | (exfalso; rename_i hu _; simp [undef] at hu; done))
          go_loopw [6] (fun iv wr => ∃ k : Nat, iv = .int .i64 k ∧ k ≤ n + 1 ∧ Hid (((xs.take k).all okM) = true) ∧ ∃ q, wr = w3.drewN q) (fun iv wr => n + 1 - (intOf iv).toNat)
          case atStart => exact ⟨0, rfl, Nat.zero_le _, Lib.hid rfl, 0, rfl⟩
          case round =>
            obtain ⟨k, rfl, hk, HT, q, rfl⟩ := hrel
            have hb4 : ∀ n, Below w.heap.size w ((w3.drewN q).drewN n) := fun n => pw_drewN (pw_drewN hbw q) n
            by_cases hlt : k < n + 1
            · have hl' : k < xs.length := by rw [HN.out]; exact hlt
              obtain ⟨g, hg, c⟩ := HA.out k hl'
              cases hg
              have hx := HF.out xs[k] (List.getElem_mem hl')
              have HTT := Lib.hid (take_all okM xs k hl' HT.out)
              have HFF := Lib.hid (all_false okM xs k hl')
              obtain ⟨x, hxe⟩ : ∃ x, xs[k] = x := ⟨_, rfl⟩
              rw [hxe] at c hx HTT HFF
              have hok := okM_eq x hx.1
              have k1 : (w3.drewN q).cell? ⟨g0, k, none⟩ = some (.string x) := c
              have HQ := Lib.hid (show ∀ n, ∃ m, (w3.drewN q).drewN n = w3.drewN m from fun n => ⟨q + n, World.drewN_drewN _ _ _⟩)
              obtain ⟨hxp, hxs⟩ := hx
              have hxp1 : (0 : Int) < x.size := by omega
              have hxp2 : (1 : Int) ≤ x.size := by omega
              have hlast : x.size - 1 < x.size := by omega
              unfold first last at hok
              rw [dif_pos hxp, dif_pos hxp] at hok
              clear hxe hl' c
              generalize w3.drewN q = W at *
              by_cases f1 : (x[0].toNat : Int) = 46
              · have HS2 := Lib.hid (show R = 10 by rw [HS.out, HFF.out (by rw [hok, decide_eq_true f1]; rfl)]; rfl)
                have q46 : ((x[0].toNat : Int) == 46) = true := by simpa using f1
                clear f1 hok
                go_wp2_with (first | (exfalso; rename_i hu _; simp [undef] at hu; done))
                go_quiet (fail)
                go_wp2
                go_ret
                exact ⟨ret_num HS2.out.symm, hb4 _⟩
              · have q46 : ((x[0].toNat : Int) == 46) = false := by simpa using f1
                obtain ⟨m, hm⟩ : ∃ m, x.size - 1 = m := ⟨_, rfl⟩
                have hml : m < x.size := by omega
                have hmi : (m : Int) < x.size := by omega
                simp only [hm] at hok
                by_cases f2 : (x[m].toNat : Int) = 46
                · have HS2 := Lib.hid (show R = 10 by rw [HS.out, HFF.out (by rw [hok, decide_eq_true f2]; simp)]; rfl)
                  have q47 : ((x[m].toNat : Int) == 46) = true := by simpa using f2
                  clear f1 f2 hok hlast
                  have hw1 : IntKind.i64.wrap ((x.size : Int) - 1) = (m : Int) := by rw [IntWalk.i64_in _ (by omega)]; omega
                  have hw2 : (x.size : Int) - 1 = (m : Int) := by omega
                  go_wp2_with (first | (exfalso; rename_i hu _; simp [undef] at hu; done))
                  go_quiet (fail)
                  go_wp2
                  go_ret
                  exact ⟨ret_num HS2.out.symm, hb4 _⟩
                · have HP := Lib.hid (show ((xs.take (k + 1)).all okM) = true by rw [HTT.out, hok, decide_eq_false f1, decide_eq_false f2]; rfl)
                  have q47 : ((x[m].toNat : Int) == 46) = false := by simpa using f2
                  clear f1 f2 hok hlast
                  have hw1 : IntKind.i64.wrap ((x.size : Int) - 1) = (m : Int) := by rw [IntWalk.i64_in _ (by omega)]; omega
                  have hw2 : (x.size : Int) - 1 = (m : Int) := by omega
                  go_wp2_with (first | (exfalso; rename_i hu _; simp [undef] at hu; done))
                  go_quiet (fail)
                  go_wp2
                  clear hw1 hw2
                  exact ⟨⟨k + 1, by go_num, by omega, HP, HQ.out _⟩, by simp [intOf] <;> omega⟩
            · have HS2 := Lib.hid (show R = 0 by
                rw [HS.out]
                have := HT.out
                rw [List.take_of_length_le (by have := HN.out; omega)] at this
                rw [this]; rfl)
              have hb5 := hb4 0
              go_wp2
              go_ret
              exact ⟨ret_num HS2.out.symm, hb5⟩
end Go.Proofs.YtcfmaeonginefaaGreatDoor.Module1
