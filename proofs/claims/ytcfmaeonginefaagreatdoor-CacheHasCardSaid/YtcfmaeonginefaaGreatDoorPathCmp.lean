/- slices.Compare at texts, paths.Compare, graftbedref01.Compare: what they answer. -/
import Derived.Test.YtcfmaeonginefaaGreatDoorCmp
import Derived.Test.YtcfmaeonginefaaGreatDoorHand01
import Derived.Deep.QuietTactic
import Derived.BigQuiet
namespace Go.Proofs.YtcfmaeonginefaaGreatDoor.PathCmp
open Go Go.RowKit Go.Shelf Go.Proofs.YtcfmaeonginefaaGreatDoor.Seq Go.Proofs.YtcfmaeonginefaaGreatDoor.Cut Go.Proofs.YtcfmaeonginefaaGreatDoor.Elems Go.Proofs.YtcfmaeonginefaaGreatDoor.Collect Go.Proofs.YtcfmaeonginefaaGreatDoor.Paths Go.Proofs.YtcfmaeonginefaaGreatDoor.Made Go.Proofs.YtcfmaeonginefaaGreatDoor.Idents Go.Proofs.YtcfmaeonginefaaGreatDoor.Sign Go.Proofs.YtcfmaeonginefaaGreatDoor.Order Go.Proofs.YtcfmaeonginefaaGreatDoor.OrderPre Go.Proofs.YtcfmaeonginefaaGreatDoor.Num3 Go.Proofs.YtcfmaeonginefaaGreatDoor.Order3 Go.Proofs.YtcfmaeonginefaaGreatDoor.Parse Go.Proofs.YtcfmaeonginefaaGreatDoor.Parse3 Go.Proofs.YtcfmaeonginefaaGreatDoor.Hand01 Go.Proofs.YtcfmaeonginefaaGreatDoor.Cmp
set_option linter.unusedSimpArgs false
set_option linter.unusedVariables false

/-- A slice of texts reads as a list. -/
def Rd (w : World) (v : Value) (xs : List ByteArray) : Prop := ∃ (A : Option Addr) (c : Nat), v = .slice A xs.length c ∧ ∀ (i : Nat) (h : i < xs.length), ∃ g : Nat, A = some ⟨g, 0, none⟩ ∧ w.cell? ⟨g, i, none⟩ = some (.string xs[i])
theorem rd_row {w : World} {b e : Nat} {v : Value} {xs : List ByteArray} (h : w.ownsRow b e 1 v xs.length (xs.map Value.string)) : Rd w v xs := by
  obtain ⟨hl, h'⟩ := id h
  rcases h' with ⟨rfl, h0⟩ | ⟨g, cap, cur, rfl, _⟩
  · exact ⟨none, 0, by rw [h0], fun i hi => absurd hi (by omega)⟩
  · refine ⟨some ⟨g, 0, none⟩, cap, rfl, fun i hi => ⟨g, rfl, ?_⟩⟩
    rw [h.cellAt i (by omega)]
    simp [hi]
theorem lex_step (xs ys : List ByteArray) (k : Nat) (h1 : k < xs.length) (h2 : k < ys.length) : lexL cmpB (xs.drop k) (ys.drop k) = orB (cmpB xs[k] ys[k]) (lexL cmpB (xs.drop (k + 1)) (ys.drop (k + 1))) := by
  rw [List.drop_eq_getElem_cons h1, List.drop_eq_getElem_cons h2]; rfl
theorem lex_out (xs ys : List ByteArray) (k : Nat) (h1 : k < xs.length) (h2 : ys.length ≤ k) : lexL cmpB (xs.drop k) (ys.drop k) = 1 := by
  rw [List.drop_eq_getElem_cons h1, List.drop_of_length_le h2]; rfl
theorem lex_end (xs ys : List ByteArray) (k : Nat) (h1 : xs.length ≤ k) (h2 : k < ys.length) : lexL cmpB (xs.drop k) (ys.drop k) = -1 := by
  rw [List.drop_eq_getElem_cons h2, List.drop_of_length_le h1]; rfl
theorem lex_both (xs ys : List ByteArray) (k : Nat) (h1 : xs.length ≤ k) (h2 : ys.length ≤ k) : lexL cmpB (xs.drop k) (ys.drop k) = 0 := by
  rw [List.drop_of_length_le h1, List.drop_of_length_le h2]; rfl

set_option maxHeartbeats 2000000 in
theorem slicesCompare {v1 v2 : Value} {xs ys : List ByteArray} (w : World) (h1 : Rd w v1 xs) (h2 : Rd w v2 ys) (hx : xs.length ≤ 1048577) (hy : ys.length ≤ 1048577) :
    Calls Tryz.prog 52 #[v1, v2] w fun e w' => e = .returned (.int .i64 (lexL cmpB xs ys)) ∧ w = w' := by
  obtain ⟨A, ca, rfl, hA⟩ := h1
  obtain ⟨B, cb, rfl, hB⟩ := h2
  have HA := Lib.hid hA
  have HB := Lib.hid hB
  obtain ⟨n1, hn1⟩ : ∃ n, xs.length = n := ⟨_, rfl⟩
  obtain ⟨n2, hn2⟩ : ∃ n, ys.length = n := ⟨_, rfl⟩
  rw [hn1] at hx ⊢
  rw [hn2] at hy ⊢
  have H1 := Lib.hid hn1
  have H2 := Lib.hid hn2
  clear hA hB hn1 hn2
  go_enter Tryz.func52, Tryz.ntmps52
  go_wp2
  go_loop [11] (fun i => ∃ k : Nat, i = .int .i64 k ∧ k ≤ n1 ∧ k ≤ n2 ∧ Hid (lexL cmpB (xs.drop k) (ys.drop k) = lexL cmpB xs ys)) (fun i => n1 - (intOf i).toNat)
  case atStart => exact ⟨0, rfl, Nat.zero_le _, Nat.zero_le _, Lib.hid rfl⟩
  case round =>
    obtain ⟨k, rfl, hk1, hk2, HO⟩ := hrel
    by_cases l1 : k < n1
    · have l1' : k < xs.length := by rw [H1.out]; exact l1
      obtain ⟨g1, rfl, c1⟩ := HA.out k l1'
      by_cases l2 : k < n2
      · have l2' : k < ys.length := by rw [H2.out]; exact l2
        obtain ⟨g2, rfl, c2⟩ := HB.out k l2'
        have hs := lex_step xs ys k l1' l2'
        rw [HO.out] at hs
        obtain ⟨x, hx⟩ : ∃ x, xs[k] = x := ⟨_, rfl⟩
        obtain ⟨y, hy⟩ : ∃ y, ys[k] = y := ⟨_, rfl⟩
        rw [hx] at c1 hs
        rw [hy] at c2 hs
        clear hx hy l1' l2'
        by_cases h0 : cmpB x y = 0
        · have HS := Lib.hid (show lexL cmpB (xs.drop (k + 1)) (ys.drop (k + 1)) = lexL cmpB xs ys by rw [hs, h0]; rfl)
          have H0 := Lib.hid h0
          clear hs h0
          go_wp2_with (go_at_call 30; refine (compareS x y _).mono ?_; rw [H0.out]; rintro e w' ⟨rfl, rfl⟩)
          go_round
          case rel => exact ⟨k + 1, by go_num, by omega, by omega, HS⟩
          case measure => simp [intOf] <;> omega
        · have HS := Lib.hid (show lexL cmpB xs ys = cmpB x y by rw [hs]; unfold orB; rw [if_neg h0])
          have q : (cmpB x y != 0) = true := by simpa using h0
          clear hs h0
          go_wp2_with (go_at_call 30; refine (compareS x y _).mono ?_; rintro e w' ⟨rfl, rfl⟩)
          go_ret
          exact ⟨ret_num HS.out.symm, rfl⟩
      · have HS := Lib.hid (show lexL cmpB xs ys = 1 by rw [← HO.out]; exact lex_out xs ys k l1' (by rw [H2.out]; omega))
        go_wp2
        go_ret
        exact ⟨ret_num HS.out.symm, rfl⟩
    · by_cases l2 : k < n2
      · have HS := Lib.hid (show lexL cmpB xs ys = -1 by rw [← HO.out]; exact lex_end xs ys k (by rw [H1.out]; omega) (by rw [H2.out]; omega))
        have l3 : n1 < n2 := by omega
        go_wp2
        go_ret
        exact ⟨ret_num HS.out.symm, rfl⟩
      · have HS := Lib.hid (show lexL cmpB xs ys = 0 by rw [← HO.out]; exact lex_both xs ys k (by rw [H1.out]; omega) (by rw [H2.out]; omega))
        have l3 : ¬ n1 < n2 := by omega
        go_wp2
        go_ret
        exact ⟨ret_num HS.out.symm, rfl⟩

theorem elems_len (s : ByteArray) (hs : s.size ≤ 1048576) : (elemsB s).length ≤ 1048577 := by have := elemsB_length s; omega
set_option maxHeartbeats 1000000 in
theorem pathCompare (a b : ByteArray) (ha : a.size ≤ 1048576) (hb : b.size ≤ 1048576) (w : World) : Calls Tryz.prog 28 #[.string a, .string b] w fun e w' => e = .returned (.int .i64 (pathB a b)) ∧ Below w.heap.size w w' := by
  have q1 := elems_len a ha
  have q2 := elems_len b hb
  go_enter Tryz.func28, Tryz.ntmps28
  go_wp2_with (first
    | (go_at_call 53; first | ((with_reducible refine (Collect.Elems a ha w).mono ?_); rintro e1 w1 ⟨v1, rfl, hr1, hb1⟩) | ((with_reducible refine (Collect.Elems b hb w1).mono ?_); rintro e2 w2 ⟨v2, rfl, hr2, hb2⟩))
    | (go_at_call 52; refine (slicesCompare w2 (rd_row (rowBelow hr1 hb2)) (rd_row hr2) q1 q2).mono ?_; rintro e3 w3 ⟨rfl, rfl⟩))
  go_ret
  exact ⟨rfl, hb1.trans (hb2.mono hb1.size)⟩

theorem cmp_less {x y : ByteArray} (h : Op.bytesLess x.toList y.toList = true) : cmpB x y = -1 := by unfold cmpB; rw [if_pos h]
theorem cmp_more {x y : ByteArray} (h1 : Op.bytesLess x.toList y.toList = false) (h : Op.bytesLess y.toList x.toList = true) : cmpB x y = 1 := by
  have := cmp_text.anti y x
  rw [cmp_less h] at this
  omega
theorem cmp_same {x y : ByteArray} (h1 : Op.bytesLess x.toList y.toList = false) (h : Op.bytesLess y.toList x.toList = false) : cmpB x y = 0 := by
  have e := bl_tri _ _ h1 h
  unfold cmpB; rw [if_neg (by rw [h1]; exact Bool.false_ne_true), if_pos (by simpa using e)]

set_option maxRecDepth 100000 in
set_option maxHeartbeats 4000000 in
theorem compare01 (a b : ByteArray) (ha : a.size ≤ 1048576) (hb : b.size ≤ 1048576) (w : World) : Calls Tryz.prog 39 #[.string a, .string b] w fun e w' => e = .returned (.int .i64 (pathB a b)) ∧ Below w.heap.size w w' := by
  have q1 := elems_len a ha
  have q2 := elems_len b hb
  unfold pathB
  obtain ⟨xs, hxs⟩ : ∃ xs, elemsB a = xs := ⟨_, rfl⟩
  obtain ⟨ys, hys⟩ : ∃ ys, elemsB b = ys := ⟨_, rfl⟩
  have HX := Lib.hid hxs
  have HY := Lib.hid hys
  rw [hxs] at q1 ⊢
  rw [hys] at q2 ⊢
  clear hxs hys
  obtain ⟨n1, hn1⟩ : ∃ n, xs.length = n := ⟨_, rfl⟩
  obtain ⟨n2, hn2⟩ : ∃ n, ys.length = n := ⟨_, rfl⟩
  rw [hn1] at q1
  rw [hn2] at q2
  have H1 := Lib.hid hn1
  have H2 := Lib.hid hn2
  clear hn1 hn2
  go_enter Tryz.func39, Tryz.ntmps39
  go_wp2_with (first
    | (go_at_call 70; first | ((with_reducible refine (elems01 a ha w).mono ?_); rw [HX.out]; rintro e1 w1 ⟨v1, rfl, hr1, hb1⟩) | ((with_reducible refine (elems01 b hb w1).mono ?_); rw [HY.out]; rintro e2 w2 ⟨v2, rfl, hr2, hb2⟩; obtain ⟨A, ca, rfl, hA⟩ := rd_row (rowBelow hr1 hb2); obtain ⟨B, cb, rfl, hB⟩ := rd_row hr2; rw [H1.out, H2.out]; have HA := Lib.hid hA; have HB := Lib.hid hB; clear hA hB hr1 hr2)))
  have hbw : Below w.heap.size w w2 := hb1.trans (hb2.mono hb1.size)
  clear hb1 hb2
  go_loopw [7] (fun iv wr => ∃ k : Nat, iv = .int .i64 k ∧ k ≤ n1 ∧ k ≤ n2 ∧ Hid (lexL cmpB (xs.drop k) (ys.drop k) = lexL cmpB xs ys) ∧ ∃ q, wr = w2.drewN q) (fun iv wr => n1 - (intOf iv).toNat)
  case atStart => exact ⟨0, rfl, Nat.zero_le _, Nat.zero_le _, Lib.hid rfl, 0, rfl⟩
  case round =>
    obtain ⟨k, rfl, hk1, hk2, HO, q, rfl⟩ := hrel
    have hb4 : ∀ n, Below w.heap.size w ((w2.drewN q).drewN n) := fun n => pw_drewN (pw_drewN hbw q) n
    by_cases l1 : k < n1
    · have l1' : k < xs.length := by rw [H1.out]; exact l1
      by_cases l2 : k < n2
      · have l2' : k < ys.length := by rw [H2.out]; exact l2
        obtain ⟨g1, rfl, c1⟩ := HA.out k l1'
        obtain ⟨g2, rfl, c2⟩ := HB.out k l2'
        have hs := lex_step xs ys k l1' l2'
        rw [HO.out] at hs
        obtain ⟨x, hx⟩ : ∃ x, xs[k] = x := ⟨_, rfl⟩
        obtain ⟨y, hy⟩ : ∃ y, ys[k] = y := ⟨_, rfl⟩
        rw [hx] at c1 hs
        rw [hy] at c2 hs
        have k1 : (w2.drewN q).cell? ⟨g1, k, none⟩ = some (.string x) := c1
        have k2 : (w2.drewN q).cell? ⟨g2, k, none⟩ = some (.string y) := c2
        have HQ := Lib.hid (show ∀ n, ∃ m, (w2.drewN q).drewN n = w2.drewN m from fun n => ⟨q + n, World.drewN_drewN _ _ _⟩)
        clear hx hy l1' l2' c1 c2
        generalize w2.drewN q = W at *
        cases o1 : Op.bytesLess x.toList y.toList with
        | true =>
          have HS := Lib.hid (show lexL cmpB xs ys = -1 by rw [hs, cmp_less o1]; rfl)
          clear hs
          go_wp2
          go_quiet (fail)
          go_wp2
          go_ret
          exact ⟨ret_num HS.out.symm, hb4 _⟩
        | false =>
          cases o2 : Op.bytesLess y.toList x.toList with
          | true =>
            have HS := Lib.hid (show lexL cmpB xs ys = 1 by rw [hs, cmp_more o1 o2]; rfl)
            have o3 : (x.toList == y.toList) = false := by
              cases h : x.toList == y.toList with
              | false => rfl
              | true => rw [show x.toList = y.toList by simpa using h, bl_irr] at o2; cases o2
            clear hs
            go_wp2
            go_quiet (fail)
            go_wp2
            go_quiet (fail)
            go_wp2
            go_ret
            exact ⟨ret_num HS.out.symm, by rw [World.drewN_drewN]; exact hb4 _⟩
          | false =>
            have HS := Lib.hid (show lexL cmpB (xs.drop (k + 1)) (ys.drop (k + 1)) = lexL cmpB xs ys by rw [hs, cmp_same o1 o2]; rfl)
            have o3 : (x.toList == y.toList) = true := by simpa using bl_tri _ _ o1 o2
            clear hs
            go_wp2
            go_quiet (fail)
            go_wp2
            go_quiet (fail)
            go_wp2
            exact ⟨⟨k + 1, by go_num, by omega, by omega, HS, HQ.out _⟩, by simp [intOf] <;> omega⟩
      · have HS := Lib.hid (show lexL cmpB xs ys = 1 by rw [← HO.out]; exact lex_out xs ys k l1' (by rw [H2.out]; omega))
        have l3 : ¬ n1 < n2 := by omega
        have l4 : n2 < n1 := by omega
        have hb5 := hb4 0
        clear l1' HA HB
        generalize w2.drewN q = W at *
        go_wp2_with (first | (exfalso; rename_i hu _; simp [undef] at hu; done))
        go_ret
        exact ⟨ret_num HS.out.symm, hb5⟩
    · have hb5 := hb4 0
      clear HA HB
      generalize w2.drewN q = W at *
      by_cases l2 : k < n2
      · have HS := Lib.hid (show lexL cmpB xs ys = -1 by rw [← HO.out]; exact lex_end xs ys k (by rw [H1.out]; omega) (by rw [H2.out]; omega))
        have l3 : n1 < n2 := by omega
        go_wp2_with (first | (exfalso; rename_i hu _; simp [undef] at hu; done))
        go_ret
        exact ⟨ret_num HS.out.symm, hb5⟩
      · have HS := Lib.hid (show lexL cmpB xs ys = 0 by rw [← HO.out]; exact lex_both xs ys k (by rw [H1.out]; omega) (by rw [H2.out]; omega))
        have l3 : ¬ n1 < n2 := by omega
        have l4 : ¬ n2 < n1 := by omega
        go_wp2_with (first | (exfalso; rename_i hu _; simp [undef] at hu; done))
        go_ret
        exact ⟨ret_num HS.out.symm, hb5⟩
end Go.Proofs.YtcfmaeonginefaaGreatDoor.PathCmp
