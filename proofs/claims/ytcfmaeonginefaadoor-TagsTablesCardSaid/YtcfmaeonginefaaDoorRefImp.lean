/- graftbedref01.Import: what it answers. -/
import Derived.Test.YtcfmaeonginefaaDoorRefMade
import Derived.IntWalk
namespace Go.Proofs.YtcfmaeonginefaaDoor.RefImp
open Go Go.RowKit Go.Shelf Go.Proofs.YtcfmaeonginefaaDoor.Cut Go.Proofs.YtcfmaeonginefaaDoor.Elems Go.Proofs.YtcfmaeonginefaaDoor.Paths Go.Proofs.YtcfmaeonginefaaDoor.Made Go.Proofs.YtcfmaeonginefaaDoor.Import Go.Proofs.YtcfmaeonginefaaDoor.Base Go.Proofs.YtcfmaeonginefaaDoor.RefFine Go.Proofs.YtcfmaeonginefaaDoor.RefMade
set_option linter.unusedSimpArgs false
set_option linter.unusedVariables false

theorem size_list (s : ByteArray) : s.data.toList.length = s.size := lenS s
theorem drop_cons (s : ByteArray) (i : Nat) (h : i < s.size) : s.data.toList.drop i = (s.data.toList[i]'(by rw [size_list]; exact h)) :: s.data.toList.drop (i + 1) :=
  List.drop_eq_getElem_cons (by rw [size_list]; exact h)
def last (x : ByteArray) (c : Int) : Bool := if h : 0 < x.size then decide ((x[x.size - 1].toNat : Int) = c) else false
theorem first_eq (x : ByteArray) (h : 0 < x.size) (c : UInt8) : first x c.toNat = decide (x[0] = c) := by
  unfold first; rw [dif_pos h, Bool.eq_iff_iff, decide_eq_true_iff, decide_eq_true_iff, ← UInt8.toNat_inj]; omega
theorem get_list (x : ByteArray) (i : Nat) (h : i < x.size) : x[i] = x.data.toList[i]'(by rw [size_list]; exact h) := rfl
theorem suffix_last (x : ByteArray) (h : 0 < x.size) : Lib.hasSuffix x.data.toList [46] = last x 46 := by
  unfold last; rw [dif_pos h, get_list x (x.size - 1) (by omega)]
  rw [← Lib.hasSuffix_of_drop]
  have hl := size_list x
  have e : x.data.toList.drop (x.size - 1) = [x.data.toList[x.size - 1]'(by omega)] := by
    rw [drop_cons x (x.size - 1) (by omega), List.drop_of_length_le (by omega)]
  have e1 : decide ([(46 : UInt8)].length ≤ x.data.toList.length) = true := decide_eq_true (by simp; omega)
  rw [e1, Bool.true_and]
  show (x.data.toList.drop (x.data.toList.length - 1) == [46]) = _
  rw [show x.data.toList.length - 1 = x.size - 1 by omega, e, Bool.eq_iff_iff, decide_eq_true_iff, beq_iff_eq]
  constructor
  · intro h; injection h with h _; rw [h]; rfl
  · intro h
    have h46 : (46 : UInt8).toNat = 46 := rfl
    rw [UInt8.toNat_inj.1 (show (x.data.toList[x.size - 1]'(by omega)).toNat = (46 : UInt8).toNat by omega)]
theorem okI_eq (x : ByteArray) (h : 0 < x.size) : okI x = (!(first x 46 || first x 45 || last x 46)) := by unfold okI; rw [suffix_last x h]
theorem elems_fine (s : ByteArray) (hs : s.size ≤ 1048576) (hv : validB s = true) : ∀ x, x ∈ elemsB s → 0 < x.size ∧ x.size ≤ 1048576 := fun x hx => by
  unfold validB at hv
  rw [Bool.and_eq_true] at hv
  exact ⟨okE_pos (List.all_eq_true.1 hv.2 x hx), elemsB_size s hs x hx⟩

set_option maxRecDepth 100000 in
set_option maxHeartbeats 8000000 in
theorem import01 (s : ByteArray) (hs : s.size ≤ 1048576) (w : World) : Calls Tryd.prog 40 #[.string s] w fun e w' => e = .returned (.int .i64 (errB (importB s))) ∧ Below w.heap.size w w' := by
  have hml := made_caps s
  obtain ⟨R, hR⟩ : ∃ R, errB (importB s) = R := ⟨_, rfl⟩
  rw [hR]
  cases hv : validB s with
  | false =>
    have HS := Lib.hid (show R = 10 by rw [← hR]; exact errB_no (by simp only [importB, hv, Bool.false_and]))
    have HV := Lib.hid hv
    clear hv hml hR
    go_enter Tryd.func40, Tryd.ntmps40
    go_wp2_with (first
      | (exfalso; rename_i hu _; simp [undef] at hu; done)
      | (go_at_call 58; refine (valid01 s hs _).mono ?_; rw [HV.out]; rintro e w1 ⟨rfl, hb1⟩))
    go_ret
    exact ⟨ret_num HS.out.symm, hb1⟩
  | true =>
  cases hm : madeB s caps with
  | false =>
    have HS := Lib.hid (show R = 10 by rw [← hR]; exact errB_no (by simp only [importB, hm, Bool.false_and, Bool.and_false]))
    have HV := Lib.hid hv
    rw [hm] at hml
    have HM := Lib.hid hml
    clear hv hm hml hR
    go_enter Tryd.func40, Tryd.ntmps40
    go_wp2_with (first
      | (exfalso; rename_i hu _; simp [undef] at hu; done)
      | (go_at_call 58; refine (valid01 s hs _).mono ?_; rw [HV.out]; rintro e w1 ⟨rfl, hb1⟩)
      | (go_at_call 59; refine (made01 s ⟨#[45, 46, 95, 126, 47, 43]⟩ true hs (by decide) _).mono ?_; rw [HM.out]; rintro e w2 ⟨rfl, rfl⟩))
    go_ret
    exact ⟨ret_num HS.out.symm, hb1⟩
  | true =>
  rw [hm] at hml
  have hf := elems_fine s hs hv
  have HS := Lib.hid (show R = errB ((elemsB s).all okI) by rw [← hR]; simp only [importB, hv, hm, Bool.and_self, Bool.true_and])
  obtain ⟨xs, hxs⟩ : ∃ xs, elemsB s = xs := ⟨_, rfl⟩
  rw [hxs] at hf HS
  have hl := elems_len s hs
  rw [hxs] at hl
  obtain ⟨n, hn⟩ : ∃ n, xs.length = n := ⟨_, rfl⟩
  rw [hn] at hl
  have HX := Lib.hid hxs
  have HF := Lib.hid hf
  have HN := Lib.hid hn
  have HV := Lib.hid hv
  have HM := Lib.hid hml
  clear hv hm hml hf hxs hn hR
  go_enter Tryd.func40, Tryd.ntmps40
  go_wp2_with (first
    | (exfalso; rename_i hu _; simp [undef] at hu; done)
    | (go_at_call 58; refine (valid01 s hs _).mono ?_; rw [HV.out]; rintro e w1 ⟨rfl, hb1⟩)
    | (go_at_call 59; refine (made01 s ⟨#[45, 46, 95, 126, 47, 43]⟩ true hs (by decide) _).mono ?_; rw [HM.out]; rintro e w2 ⟨rfl, rfl⟩)
    | (go_at_call 60; refine (elems01 s hs _).mono ?_; rw [HX.out]; rintro e1 w3 ⟨v1, rfl, hr1, hb3⟩; obtain ⟨A, ca, rfl, hA⟩ := rd_row hr1; rw [HN.out]; have HA := Lib.hid hA; clear hA hr1))
  have hbw : Below w.heap.size w w3 := hb1.trans (hb3.mono hb1.size)
  clear hb1 hb3
  go_loopw [4] (fun iv wr => ∃ k : Nat, iv = .int .i64 k ∧ k ≤ n ∧ Hid (((xs.take k).all okI) = true) ∧ ∃ q, wr = w3.drewN q) (fun iv wr => n - (intOf iv).toNat)
  case atStart => exact ⟨0, rfl, Nat.zero_le _, Lib.hid rfl, 0, rfl⟩
  case round =>
    obtain ⟨k, rfl, hk, HT, q, rfl⟩ := hrel
    have hb4 : ∀ n, Below w.heap.size w ((w3.drewN q).drewN n) := fun n => pw_drewN (pw_drewN hbw q) n
    by_cases hlt : k < n
    · have hl' : k < xs.length := by rw [HN.out]; exact hlt
      obtain ⟨g, hg, c⟩ := HA.out k hl'
      subst hg
      have hx := HF.out xs[k] (List.getElem_mem hl')
      have HTT := Lib.hid (take_all okI xs k hl' HT.out)
      have HFF := Lib.hid (all_false okI xs k hl')
      obtain ⟨x, hxe⟩ : ∃ x, xs[k] = x := ⟨_, rfl⟩
      rw [hxe] at c hx HTT HFF
      have hok := okI_eq x hx.1
      have k1 : (w3.drewN q).cell? ⟨g, k, none⟩ = some (.string x) := c
      have HQ := Lib.hid (show ∀ n, ∃ m, (w3.drewN q).drewN n = w3.drewN m from fun n => ⟨q + n, World.drewN_drewN _ _ _⟩)
      obtain ⟨hxp, hxs⟩ := hx
      have hxp1 : (0 : Int) < x.size := by omega
      have hxp2 : (1 : Int) ≤ x.size := by omega
      obtain ⟨m, hm⟩ : ∃ m, x.size - 1 = m := ⟨_, rfl⟩
      have hml : m < x.size := by omega
      have hmi : (m : Int) < x.size := by omega
      unfold first last at hok
      rw [dif_pos hxp, dif_pos hxp, dif_pos hxp] at hok
      simp only [hm] at hok
      have hw1 : IntKind.i64.wrap ((x.size : Int) - 1) = (m : Int) := by rw [IntWalk.i64_in _ (by omega)]; omega
      have hw2 : (x.size : Int) - 1 = (m : Int) := by omega
      clear hxe hl' c
      generalize w3.drewN q = W at *
      by_cases f1 : (x[0].toNat : Int) = 46
      · have HS2 := Lib.hid (show R = 10 by rw [HS.out, HFF.out (by rw [hok, decide_eq_true f1]; simp)]; rfl)
        have q46 : ((x[0].toNat : Int) == 46) = true := by simpa using f1
        clear f1 hok
        go_wp2_with (first | (exfalso; rename_i hu _; simp [undef] at hu; done))
        go_quiet (fail)
        go_wp2
        go_ret
        exact ⟨ret_num HS2.out.symm, hb4 _⟩
      have q46 : ((x[0].toNat : Int) == 46) = false := by simpa using f1
      by_cases f3 : (x[0].toNat : Int) = 45
      · have HS2 := Lib.hid (show R = 10 by rw [HS.out, HFF.out (by rw [hok, decide_eq_true f3]; simp)]; rfl)
        have q45 : ((x[0].toNat : Int) == 45) = true := by simpa using f3
        clear f1 f3 hok
        go_wp2_with (first | (exfalso; rename_i hu _; simp [undef] at hu; done))
        go_quiet (fail)
        go_wp2
        go_ret
        exact ⟨ret_num HS2.out.symm, hb4 _⟩
      have q45 : ((x[0].toNat : Int) == 45) = false := by simpa using f3
      by_cases f2 : (x[m].toNat : Int) = 46
      · have HS2 := Lib.hid (show R = 10 by rw [HS.out, HFF.out (by rw [hok, decide_eq_true f2]; simp)]; rfl)
        have q47 : ((x[m].toNat : Int) == 46) = true := by simpa using f2
        clear f1 f2 f3 hok
        go_wp2_with (first | (exfalso; rename_i hu _; simp [undef] at hu; done))
        go_quiet (fail)
        go_wp2
        go_ret
        exact ⟨ret_num HS2.out.symm, hb4 _⟩
      · have HP := Lib.hid (show ((xs.take (k + 1)).all okI) = true by rw [HTT.out, hok, decide_eq_false f1, decide_eq_false f2, decide_eq_false f3]; rfl)
        have q47 : ((x[m].toNat : Int) == 46) = false := by simpa using f2
        clear f1 f2 f3 hok
        go_wp2_with (first | (exfalso; rename_i hu _; simp [undef] at hu; done))
        go_quiet (fail)
        go_wp2
        clear hw1 hw2
        exact ⟨⟨k + 1, by go_num, by omega, HP, HQ.out _⟩, by simp [intOf] <;> omega⟩
    · have HS2 := Lib.hid (show R = 0 by
        rw [HS.out]
        have := HT.out
        rw [List.take_of_length_le (by have := HN.out; omega)] at this
        rw [this]; rfl)
      have hb5 := hb4 0
      go_wp2
      go_ret
      exact ⟨ret_num HS2.out.symm, hb5⟩
end Go.Proofs.YtcfmaeonginefaaDoor.RefImp
