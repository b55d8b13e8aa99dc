/- graftbedref03: Parse: what it answers. -/
import Derived.Test.YtcfmaeonginefaaGreatDoorIdents3
import Derived.Test.YtcfmaeonginefaaGreatDoorParse
namespace Go.Proofs.YtcfmaeonginefaaGreatDoor.Parse3
open Go Go.RowKit Go.Shelf Go.Proofs.YtcfmaeonginefaaGreatDoor.Seq Go.Proofs.YtcfmaeonginefaaGreatDoor.Cut Go.Proofs.YtcfmaeonginefaaGreatDoor.Elems Go.Proofs.YtcfmaeonginefaaGreatDoor.Paths Go.Proofs.YtcfmaeonginefaaGreatDoor.Made Go.Proofs.YtcfmaeonginefaaGreatDoor.Idents Go.Proofs.YtcfmaeonginefaaGreatDoor.Sign Go.Proofs.YtcfmaeonginefaaGreatDoor.Num3 Go.Proofs.YtcfmaeonginefaaGreatDoor.Split3 Go.Proofs.YtcfmaeonginefaaGreatDoor.Idents3 Go.Proofs.YtcfmaeonginefaaGreatDoor.Parse
set_option linter.unusedSimpArgs false
set_option linter.unusedVariables false

/-- Five cells of one block. -/
def C5 (V : World) (b : Nat) (a0 a1 a2 a3 a4 : Value) : Prop :=
  (V.cell? ⟨b, 0, none⟩ = some a0 ∧ V.cell? ⟨b, 1, none⟩ = some a1 ∧ V.cell? ⟨b, 2, none⟩ = some a2 ∧ V.cell? ⟨b, 3, none⟩ = some a3 ∧ V.cell? ⟨b, 4, none⟩ = some a4) ∧
  V.frozen? ⟨b, 0, none⟩ = false ∧ V.frozen? ⟨b, 1, none⟩ = false ∧ V.frozen? ⟨b, 2, none⟩ = false ∧ V.frozen? ⟨b, 3, none⟩ = false ∧ V.frozen? ⟨b, 4, none⟩ = false
theorem c5 {V : World} {b : Nat} {t : TypeId} {a0 a1 a2 a3 a4 : Value} (g : V.heap[b]? = some (.cells #[a0, a1, a2, a3, a4] t)) : C5 V b a0 a1 a2 a3 a4 := by
  simp [C5, World.cell?, World.frozen?, g]
theorem c5_below {V V' : World} {b : Nat} {a0 a1 a2 a3 a4 : Value} (h : C5 V b a0 a1 a2 a3 a4) (hb : Below V.heap.size V V') (hlt : b < V.heap.size) : C5 V' b a0 a1 a2 a3 a4 := by
  have e := hb.block b hlt
  have e1 : ∀ j, V'.cell? ⟨b, j, none⟩ = V.cell? ⟨b, j, none⟩ := fun j => by simp [World.cell?, e]
  have e2 : ∀ j, V'.frozen? ⟨b, j, none⟩ = V.frozen? ⟨b, j, none⟩ := fun j => by simp [World.frozen?, e]
  unfold C5 at *
  rw [e1, e1, e1, e1, e1, e2, e2, e2, e2, e2]
  exact h

def errV : Int × Int × Int × ByteArray × ByteArray × Int := (0, 0, 0, ⟨#[]⟩, ⟨#[]⟩, 30)
theorem find43 (s : ByteArray) (hs : s.size ≤ 1048576) (w : World) : Calls Tryz.prog 72 #[.string s, .int .u8 43] w fun e w' => e = .returned (.int .i64 (findB s 43)) ∧ w = w' := find3 s 43 hs w
theorem find45 (s : ByteArray) (hs : s.size ≤ 1048576) (w : World) : Calls Tryz.prog 72 #[.string s, .int .u8 45] w fun e w' => e = .returned (.int .i64 (findB s 45)) ∧ w = w' := find3 s 45 hs w

theorem isV_head (s : ByteArray) (h : 0 < s.size) : isV s = decide ((s[0].toNat : Int) = 118) := by
  obtain ⟨⟨l⟩⟩ := s
  cases l with
  | nil => exact absurd h (by simp [ByteArray.size])
  | cons a t =>
    show Lib.hasPrefix (a :: t) [118] = decide ((a.toNat : Int) = 118)
    have := all_bytes (fun a => Lib.hasPrefix [a] [118] == decide ((a.toNat : Int) = 118)) (by decide +kernel) a
    have e : Lib.hasPrefix (a :: t) [118] = Lib.hasPrefix [a] [118] := by simp [Lib.hasPrefix, List.isPrefixOf]
    rw [e]; simpa using this
theorem isV_empty (s : ByteArray) (h : s.size < 1) : isV s = false := by
  obtain ⟨⟨l⟩⟩ := s
  cases l with
  | nil => rfl
  | cons a t => exact absurd h (by simp [ByteArray.size])
theorem trimV_tail (s : ByteArray) (h : isV s = true) : trimV s = s.extract 1 s.size := by
  have e : s.data.toList.length = s.size := by rw [Array.length_toList]; rfl
  unfold isV at h
  show mk (Lib.trimPrefix s.data.toList [118]) = _
  unfold Lib.trimPrefix
  rw [if_pos h, extract_mk, List.take_of_length_le (by simp <;> omega)]
  rfl

theorem parseB_err {s : ByteArray} (h : (isV s && !decide ((60 : Int) < s.size) && ok3 s) = false) : parseB s = errV := by unfold parseB; rw [h]; rfl

theorem find_cut (s : ByteArray) (c : UInt8) : ∃ k : Nat, findB s c = k ∧ k ≤ s.size ∧ cutB s c = (s.extract 0 k, (if k < s.size then s.extract (k + 1) s.size else ⟨#[]⟩), decide (k < s.size)) := by
  have hl := ix_lt s c
  unfold findB cutB
  by_cases h : 0 ≤ ix s c
  · refine ⟨(ix s c).toNat, by rw [if_neg (by omega)]; omega, by omega, ?_⟩
    rw [if_pos h, if_pos (by omega), decide_eq_true (by omega)]
  · refine ⟨s.size, by rw [if_pos (by omega)], Nat.le_refl _, ?_⟩
    rw [if_neg h, if_neg (by omega), decide_eq_false (by omega)]
    simp

theorem gm_t : gM true = idOk false := by funext e; simp [gM, idOk]
theorem gp_t : gP true = idOk true := by funext e; simp [gP, idOk]
theorem all_gmf (l : List ByteArray) : l.all (gM false) = true := by simp [gM]
theorem all_gpf (l : List ByteArray) : l.all (gP false) = true := by simp [gP]
theorem set3_other {V : World} {b k : Nat} (hk : k ≠ b) (a0 a1 a2 : Value) : (((V.setCell ⟨b, 0, none⟩ a0).setCell ⟨b, 1, none⟩ a1).setCell ⟨b, 2, none⟩ a2).heap[k]? = V.heap[k]? :=
  (Below.heap_setCell _ _ _ k hk).trans ((Below.heap_setCell _ _ _ k hk).trans (Below.heap_setCell _ _ _ k hk))
theorem set3_below {n₀ : Nat} {w V : World} {b : Nat} (h : Below n₀ w V) (hb : n₀ ≤ b) (a0 a1 a2 : Value) : Below n₀ w (((V.setCell ⟨b, 0, none⟩ a0).setCell ⟨b, 1, none⟩ a1).setCell ⟨b, 2, none⟩ a2) :=
  ((h.setCell (p := ⟨b, 0, none⟩) hb a0).setCell (p := ⟨b, 1, none⟩) hb a1).setCell (p := ⟨b, 2, none⟩) hb a2
theorem numV_nonneg (x : ByteArray) : 0 ≤ numV x := by unfold numV; split <;> omega

set_option maxRecDepth 100000 in
set_option maxHeartbeats 8000000 in
theorem parse3 (s : ByteArray) (hs : s.size ≤ 1048576) (w : World) : Calls Tryz.prog 71 #[.string s] w fun e w' => e = .returned (verV (parseB s)) ∧ Below w.heap.size w w' := by
  by_cases h1 : (s.size : Int) < 1
  · rw [parseB_err (by rw [isV_empty s (by omega)]; rfl)]
    go_enter Tryz.func71, Tryz.ntmps71
    go_wp2
    refine bodyPost_ret (v := verV errV) (by simp [verV, errV, results, Tryz.f71, go_sem]) rfl ?_
    exact ⟨rfl, (Below.refl _ w).alloc (Nat.le_refl _) _⟩
  by_cases h2 : (60 : Int) < s.size
  · rw [parseB_err (by rw [decide_eq_true h2]; simp)]
    go_enter Tryz.func71, Tryz.ntmps71
    go_wp2
    refine bodyPost_ret (v := verV errV) (by simp [verV, errV, results, Tryz.f71, go_sem]) rfl ?_
    exact ⟨rfl, (Below.refl _ w).alloc (Nat.le_refl _) _⟩
  have hpos : 0 < s.size := by omega
  by_cases h3 : (s[0].toNat : Int) = 118
  case neg =>
    rw [parseB_err (by rw [isV_head s hpos, decide_eq_false h3]; rfl)]
    have h3' : ((s[0].toNat : Int) != 118) = true := by simpa using h3
    clear h3
    go_enter Tryz.func71, Tryz.ntmps71
    go_wp2
    refine bodyPost_ret (v := verV errV) (by simp [verV, errV, results, Tryz.f71, go_sem]) rfl ?_
    exact ⟨rfl, (Below.refl _ w).alloc (Nat.le_refl _) _⟩
  have hV : isV s = true := by rw [isV_head s hpos, decide_eq_true h3]
  have hT := trimV_tail s hV
  have h3' : ((s[0].toNat : Int) != 118) = false := by simpa using h3
  clear h3
  have h60 : (s.size : Int) ≤ 60 := by omega
  obtain ⟨T, hTe⟩ : ∃ T, s.extract 1 s.size = T := ⟨_, rfl⟩
  have hTs : T.size ≤ 60 := by
    rw [← hTe, ByteArray.size_extract]; omega
  rw [hTe] at hT
  obtain ⟨k1, hk1, hk1s, hc1⟩ := find_cut T 43
  obtain ⟨R1, hR1e⟩ : ∃ R1, T.extract 0 k1 = R1 := ⟨_, rfl⟩
  have hR1s : R1.size ≤ 60 := by rw [← hR1e, ByteArray.size_extract]; omega
  obtain ⟨ME, hMEe⟩ : ∃ ME, T.extract (k1 + 1) T.size = ME := ⟨_, rfl⟩
  have hMEs : ME.size ≤ 60 := by rw [← hMEe, ByteArray.size_extract]; omega
  obtain ⟨k2, hk2, hk2s, hc2⟩ := find_cut R1 45
  obtain ⟨R2, hR2e⟩ : ∃ R2, R1.extract 0 k2 = R2 := ⟨_, rfl⟩
  have hR2s : R2.size ≤ 60 := by rw [← hR2e, ByteArray.size_extract]; omega
  obtain ⟨PR, hPRe⟩ : ∃ PR, R1.extract (k2 + 1) R1.size = PR := ⟨_, rfl⟩
  have hPRs : PR.size ≤ 60 := by rw [← hPRe, ByteArray.size_extract]; omega
  rw [hR1e, hMEe] at hc1
  rw [hR2e, hPRe] at hc2
  have hm1 : metaC s = _ := (show metaC s = cutB T 43 by unfold metaC; rw [hT]).trans hc1
  have hm2 : preC s = _ := (show preC s = cutB R1 45 by unfold preC; rw [hm1]).trans hc2
  have HK1 := Lib.hid hk1
  have HK2 := Lib.hid hk2
  have HTE := Lib.hid hTe
  have HR1 := Lib.hid hR1e
  have HME := Lib.hid hMEe
  have HR2 := Lib.hid hR2e
  have HPR := Lib.hid hPRe
  have hT1 : T.size ≤ 1048576 := by omega
  have hR1 : R1.size ≤ 1048576 := by omega
  have hR2 : R2.size ≤ 1048576 := by omega
  have hME : ME.size ≤ 1048576 := by omega
  have hPR : PR.size ≤ 1048576 := by omega
  obtain ⟨o0, ho0⟩ : ∃ o0 : Bool, ((Lib.countByte R2.data.toList 46 : Int) == 2) = o0 := ⟨_, rfl⟩
  have PE := parseB_eq hm1 hm2 ho0 hV h60
  clear hc1 hc2 hm1 hm2 hk1 hk2 hT hV hTe hR1e hMEe hR2e hPRe
  by_cases cm : k1 < T.size
  · have hkm : ((k1 : Int) < T.size) := by omega
    simp only [cm, if_true, decide_true] at PE
    cases hbm : (splB 46 ME).all (idOk false) with
    | false =>
      have HBM := Lib.hid hbm
      have e : parseB s = errV := by rw [PE, gm_t, hbm]; simp [errV]
      rw [e]
      clear PE e hbm
      go_enter Tryz.func71, Tryz.ntmps71
      go_wp2_with (first
        | (exfalso; rename_i hu _; simp [undef] at hu; done)
        | (go_at_call 72; first | (rw [HTE.out]; refine (find43 T hT1 _).mono ?_; rw [HK1.out]; rintro e w' ⟨rfl, rfl⟩) | (rw [HR1.out]; refine (find45 R1 hR1 _).mono ?_; rw [HK2.out]; rintro e w' ⟨rfl, rfl⟩))
        | (go_at_call 101; rw [HME.out]; refine (identifiers3 ME false hME _).mono ?_; rw [HBM.out]; rintro e w1 ⟨rfl, hb1⟩; have h0w1 : w1.heap[w.heap.size]? = some (.cells #[.int .i64 0, .int .i64 0, .int .i64 0, .string ⟨#[]⟩, .string ⟨#[]⟩] 87) := (hb1.block _ (by first | omega | (simp <;> omega))).trans (by first | exact (Below.heap_alloc _ _ _ (by simp)).trans (newAt _ _ _ rfl)); have h1w1 : w1.heap[(w.heap.size + 1)]? = some (.cells #[.int .i64 0, .int .i64 0, .int .i64 0, .string ⟨#[]⟩, .string ME] 87) := (hb1.block _ (by first | omega | (simp <;> omega))).trans (by first | exact newAt _ _ _ (by simp)); have hww1 : Below w.heap.size w w1 := Below.trans (by first | exact ((Below.refl _ w).alloc (Nat.le_refl _) _).alloc (by simp) _) (hb1.mono (by first | omega | (simp <;> omega))); have hzw1 : w.heap.size + 1 < w1.heap.size := (Array.getElem?_eq_some_iff.1 h1w1).1; obtain ⟨⟨p0w1, p1w1, p2w1, p3w1, p4w1⟩, f0w1, f1w1, f2w1, f3w1, f4w1⟩ := c5 h0w1; obtain ⟨⟨q0w1, q1w1, q2w1, q3w1, q4w1⟩, r0w1, r1w1, r2w1, r3w1, r4w1⟩ := c5 h1w1))
      have hG := c5 (set5 h0w1 (.int .i64 0) (.int .i64 0) (.int .i64 0) (.string ⟨#[]⟩) (.string ⟨#[]⟩))
      have hbl := set5_below hww1 (Nat.le_refl _) (.int .i64 0) (.int .i64 0) (.int .i64 0) (.string ⟨#[]⟩) (.string ⟨#[]⟩)
      refine bodyPost_ret (v := verV errV) (by simp [verV, errV, results, Tryz.f71, go_sem, hG.1.1, hG.1.2.1, hG.1.2.2.1, hG.1.2.2.2.1, hG.1.2.2.2.2]) rfl ⟨rfl, hbl⟩
    | true =>
      have HBM := Lib.hid hbm
      rw [gm_t, hbm, Bool.and_true] at PE
      clear hbm
      by_cases cp : k2 < R1.size
      · have hkp : ((k2 : Int) < R1.size) := by omega
        simp only [cp, if_true, decide_true] at PE
        cases hbp : (splB 46 PR).all (idOk true) with
        | false =>
          have HBP := Lib.hid hbp
          have e : parseB s = errV := by rw [PE, gp_t, hbp]; simp [errV]
          rw [e]
          clear PE e hbp
          go_enter Tryz.func71, Tryz.ntmps71
          go_wp2_with (first
            | (exfalso; rename_i hu _; simp [undef] at hu; done)
            | (go_at_call 72; first | (rw [HTE.out]; refine (find43 T hT1 _).mono ?_; rw [HK1.out]; rintro e w' ⟨rfl, rfl⟩) | (rw [HR1.out]; refine (find45 R1 hR1 _).mono ?_; rw [HK2.out]; rintro e w' ⟨rfl, rfl⟩))
            | (go_at_call 101; rw [HME.out]; refine (identifiers3 ME false hME _).mono ?_; rw [HBM.out]; rintro e w1 ⟨rfl, hb1⟩; have h0w1 : w1.heap[w.heap.size]? = some (.cells #[.int .i64 0, .int .i64 0, .int .i64 0, .string ⟨#[]⟩, .string ⟨#[]⟩] 87) := (hb1.block _ (by first | omega | (simp <;> omega))).trans (by first | exact (Below.heap_alloc _ _ _ (by simp)).trans (newAt _ _ _ rfl)); have h1w1 : w1.heap[(w.heap.size + 1)]? = some (.cells #[.int .i64 0, .int .i64 0, .int .i64 0, .string ⟨#[]⟩, .string ME] 87) := (hb1.block _ (by first | omega | (simp <;> omega))).trans (by first | exact newAt _ _ _ (by simp)); have hww1 : Below w.heap.size w w1 := Below.trans (by first | exact ((Below.refl _ w).alloc (Nat.le_refl _) _).alloc (by simp) _) (hb1.mono (by first | omega | (simp <;> omega))); have hzw1 : w.heap.size + 1 < w1.heap.size := (Array.getElem?_eq_some_iff.1 h1w1).1; obtain ⟨⟨p0w1, p1w1, p2w1, p3w1, p4w1⟩, f0w1, f1w1, f2w1, f3w1, f4w1⟩ := c5 h0w1; obtain ⟨⟨q0w1, q1w1, q2w1, q3w1, q4w1⟩, r0w1, r1w1, r2w1, r3w1, r4w1⟩ := c5 h1w1)
            | (go_at_call 101; rw [HPR.out]; refine (identifiers3 PR true hPR _).mono ?_; rw [HBP.out]; rintro e w2 ⟨rfl, hb2⟩; have h0w2 : w2.heap[w.heap.size]? = some (.cells #[.int .i64 0, .int .i64 0, .int .i64 0, .string ⟨#[]⟩, .string ⟨#[]⟩] 87) := (hb2.block _ (by first | omega | (simp <;> omega))).trans (by first | exact (Below.heap_alloc _ _ _ (by simp)).trans (newAt _ _ _ rfl) | exact h0w1 | (simp [World.setCell, Array.getElem?_modify, h0w1]; done)); have h1w2 : w2.heap[(w.heap.size + 1)]? = some (.cells #[.int .i64 0, .int .i64 0, .int .i64 0, .string PR, .string ME] 87) := (hb2.block _ (by first | omega | (simp <;> omega))).trans (by first | exact newAt _ _ _ (by simp) | exact h1w1 | (simp [World.setCell, Array.getElem?_modify, h1w1]; done)); have hww2 : Below w.heap.size w w2 := Below.trans (by first | exact ((Below.refl _ w).alloc (Nat.le_refl _) _).alloc (by simp) _ | exact hww1 | exact hww1.setCell (p := ⟨w.heap.size + 1, 3, none⟩) (by simp) _) (hb2.mono (by first | omega | (simp <;> omega))); have hzw2 : w.heap.size + 1 < w2.heap.size := (Array.getElem?_eq_some_iff.1 h1w2).1; obtain ⟨⟨p0w2, p1w2, p2w2, p3w2, p4w2⟩, f0w2, f1w2, f2w2, f3w2, f4w2⟩ := c5 h0w2; obtain ⟨⟨q0w2, q1w2, q2w2, q3w2, q4w2⟩, r0w2, r1w2, r2w2, r3w2, r4w2⟩ := c5 h1w2))
          have hG := c5 (set5 h0w2 (.int .i64 0) (.int .i64 0) (.int .i64 0) (.string ⟨#[]⟩) (.string ⟨#[]⟩))
          have hbl := set5_below hww2 (Nat.le_refl _) (.int .i64 0) (.int .i64 0) (.int .i64 0) (.string ⟨#[]⟩) (.string ⟨#[]⟩)
          refine bodyPost_ret (v := verV errV) (by simp [verV, errV, results, Tryz.f71, go_sem, hG.1.1, hG.1.2.1, hG.1.2.2.1, hG.1.2.2.2.1, hG.1.2.2.2.2]) rfl ⟨rfl, hbl⟩
        | true =>
          have HBP := Lib.hid hbp
          rw [gp_t, hbp] at PE
          have errOf : (o0 && (splB 46 R2).all numOk) = false → parseB s = errV := fun h => by rw [PE, h]; rfl
          have okOf : ∀ {x0 x1 x2}, splB 46 R2 = [x0, x1, x2] → (o0 && (splB 46 R2).all numOk) = true → parseB s = (numV x0, numV x1, numV x2, PR, ME, 0) := fun hx h => by rw [PE, h, hx]; rfl
          clear PE hbp
          by_cases hl : (splB 46 R2).length = 3
          · obtain ⟨x0, x1, x2, hx⟩ : ∃ x0 x1 x2, splB 46 R2 = [x0, x1, x2] := by
              match h : splB 46 R2, hl with
              | [a, b, c], _ => exact ⟨a, b, c, rfl⟩
            have hx0 : x0.size ≤ 1048576 := OrderPre.splB_size 46 R2 hR2 x0 (by rw [hx]; simp)
            have hx1 : x1.size ≤ 1048576 := OrderPre.splB_size 46 R2 hR2 x1 (by rw [hx]; simp)
            have hx2 : x2.size ≤ 1048576 := OrderPre.splB_size 46 R2 hR2 x2 (by rw [hx]; simp)
            have HLN := Lib.hid (show (splB 46 R2).length = 2 + 1 from hl)
            have HX := Lib.hid (show (splB 46 R2).map Value.string = [.string x0, .string x1, .string x2] by rw [hx]; rfl)
            cases hk0 : numOk x0 with
            | false =>
              have HN0 := Lib.hid (show numR x0 = -1 by unfold numR; rw [hk0]; rfl)
              obtain ⟨y1, HN1⟩ : ∃ y, Hid (numR x1 = y) := ⟨_, Lib.hid rfl⟩
              obtain ⟨y2, HN2⟩ : ∃ y, Hid (numR x2 = y) := ⟨_, Lib.hid rfl⟩
              have e : parseB s = errV := errOf (by rw [hx]; simp [hk0])
              rw [e]
              clear e errOf hk0
              go_enter Tryz.func71, Tryz.ntmps71
              go_wp2_with (first
                | (exfalso; rename_i hu _; simp [undef] at hu; done)
                | (go_at_call 72; first | (rw [HTE.out]; refine (find43 T hT1 _).mono ?_; rw [HK1.out]; rintro e w' ⟨rfl, rfl⟩) | (rw [HR1.out]; refine (find45 R1 hR1 _).mono ?_; rw [HK2.out]; rintro e w' ⟨rfl, rfl⟩))
                | (go_at_call 101; rw [HME.out]; refine (identifiers3 ME false hME _).mono ?_; rw [HBM.out]; rintro e w1 ⟨rfl, hb1⟩; have h0w1 : w1.heap[w.heap.size]? = some (.cells #[.int .i64 0, .int .i64 0, .int .i64 0, .string ⟨#[]⟩, .string ⟨#[]⟩] 87) := (hb1.block _ (by first | omega | (simp <;> omega))).trans (by first | exact (Below.heap_alloc _ _ _ (by simp)).trans (newAt _ _ _ rfl)); have h1w1 : w1.heap[(w.heap.size + 1)]? = some (.cells #[.int .i64 0, .int .i64 0, .int .i64 0, .string ⟨#[]⟩, .string ME] 87) := (hb1.block _ (by first | omega | (simp <;> omega))).trans (by first | exact newAt _ _ _ (by simp)); have hww1 : Below w.heap.size w w1 := Below.trans (by first | exact ((Below.refl _ w).alloc (Nat.le_refl _) _).alloc (by simp) _) (hb1.mono (by first | omega | (simp <;> omega))); have hzw1 : w.heap.size + 1 < w1.heap.size := (Array.getElem?_eq_some_iff.1 h1w1).1; obtain ⟨⟨p0w1, p1w1, p2w1, p3w1, p4w1⟩, f0w1, f1w1, f2w1, f3w1, f4w1⟩ := c5 h0w1; obtain ⟨⟨q0w1, q1w1, q2w1, q3w1, q4w1⟩, r0w1, r1w1, r2w1, r3w1, r4w1⟩ := c5 h1w1)
                | (go_at_call 101; rw [HPR.out]; refine (identifiers3 PR true hPR _).mono ?_; rw [HBP.out]; rintro e w2 ⟨rfl, hb2⟩; have h0w2 : w2.heap[w.heap.size]? = some (.cells #[.int .i64 0, .int .i64 0, .int .i64 0, .string ⟨#[]⟩, .string ⟨#[]⟩] 87) := (hb2.block _ (by first | omega | (simp <;> omega))).trans (by first | exact (Below.heap_alloc _ _ _ (by simp)).trans (newAt _ _ _ rfl) | exact h0w1 | (simp [World.setCell, Array.getElem?_modify, h0w1]; done)); have h1w2 : w2.heap[(w.heap.size + 1)]? = some (.cells #[.int .i64 0, .int .i64 0, .int .i64 0, .string PR, .string ME] 87) := (hb2.block _ (by first | omega | (simp <;> omega))).trans (by first | exact newAt _ _ _ (by simp) | exact h1w1 | (simp [World.setCell, Array.getElem?_modify, h1w1]; done)); have hww2 : Below w.heap.size w w2 := Below.trans (by first | exact ((Below.refl _ w).alloc (Nat.le_refl _) _).alloc (by simp) _ | exact hww1 | exact hww1.setCell (p := ⟨w.heap.size + 1, 3, none⟩) (by simp) _) (hb2.mono (by first | omega | (simp <;> omega))); have hzw2 : w.heap.size + 1 < w2.heap.size := (Array.getElem?_eq_some_iff.1 h1w2).1; obtain ⟨⟨p0w2, p1w2, p2w2, p3w2, p4w2⟩, f0w2, f1w2, f2w2, f3w2, f4w2⟩ := c5 h0w2; obtain ⟨⟨q0w2, q1w2, q2w2, q3w2, q4w2⟩, r0w2, r1w2, r2w2, r3w2, r4w2⟩ := c5 h1w2)
                | (go_at_call 75; rw [HR2.out]; refine (split46 R2 hR2 _).mono ?_; rintro e w3 ⟨v, rfl, hrow, hb3⟩; rw [HLN.out] at hrow; obtain ⟨g, cap, hv⟩ := ownsRow_succ hrow; subst hv; have h0w3 : w3.heap[w.heap.size]? = some (.cells #[.int .i64 0, .int .i64 0, .int .i64 0, .string ⟨#[]⟩, .string ⟨#[]⟩] 87) := (hb3.block _ (by first | omega | (simp <;> omega))).trans (by first | exact (Below.heap_alloc _ _ _ (by simp)).trans (newAt _ _ _ rfl) | exact h0w2 | (simp [World.setCell, Array.getElem?_modify, h0w2]; done)); have h1w3 : w3.heap[(w.heap.size + 1)]? = some (.cells #[.int .i64 0, .int .i64 0, .int .i64 0, .string PR, .string ME] 87) := (hb3.block _ (by first | omega | (simp <;> omega))).trans (by first | exact newAt _ _ _ (by simp) | exact h1w2 | (simp [World.setCell, Array.getElem?_modify, h1w2]; done)); have hww3 : Below w.heap.size w w3 := Below.trans (by first | exact ((Below.refl _ w).alloc (Nat.le_refl _) _).alloc (by simp) _ | exact hww2 | exact hww2.setCell (p := ⟨w.heap.size + 1, 3, none⟩) (by simp) _) (hb3.mono (by first | omega | (simp <;> omega))); have hzw3 : w.heap.size + 1 < w3.heap.size := (Array.getElem?_eq_some_iff.1 h1w3).1; obtain ⟨⟨p0w3, p1w3, p2w3, p3w3, p4w3⟩, f0w3, f1w3, f2w3, f3w3, f4w3⟩ := c5 h0w3; obtain ⟨⟨q0w3, q1w3, q2w3, q3w3, q4w3⟩, r0w3, r1w3, r2w3, r3w3, r4w3⟩ := c5 h1w3; rw [HX.out] at hrow; have n0 := hrow.cellAt 0 (by decide); have n1 := hrow.cellAt 1 (by decide); have n2 := hrow.cellAt 2 (by decide); simp only [List.map_cons, List.map_nil, List.getElem?_cons_zero, List.getElem?_cons_succ] at n0 n1 n2)
                | (go_at_call 102; first | (with_reducible refine (number3 x0 (by assumption) _).mono ?_; rw [HN0.out]; rintro e w' ⟨rfl, rfl⟩) | (with_reducible refine (number3 x1 (by assumption) _).mono ?_; rw [HN1.out]; rintro e w' ⟨rfl, rfl⟩) | (with_reducible refine (number3 x2 (by assumption) _).mono ?_; rw [HN2.out]; rintro e w' ⟨rfl, rfl⟩)))
              have hv0 := (set3_other (V := w3) (b := w.heap.size + 1) (k := w.heap.size) (by omega) (.int .i64 (-1)) (.int .i64 y1) (.int .i64 y2)).trans h0w3
              have hG := c5 (set5 hv0 (.int .i64 0) (.int .i64 0) (.int .i64 0) (.string ⟨#[]⟩) (.string ⟨#[]⟩))
              have hbl := set5_below (set3_below (b := w.heap.size + 1) hww3 (by omega) (.int .i64 (-1)) (.int .i64 y1) (.int .i64 y2)) (Nat.le_refl _) (.int .i64 0) (.int .i64 0) (.int .i64 0) (.string ⟨#[]⟩) (.string ⟨#[]⟩)
              refine bodyPost_ret (v := verV errV) (by simp [verV, errV, results, Tryz.f71, go_sem, hG.1.1, hG.1.2.1, hG.1.2.2.1, hG.1.2.2.2.1, hG.1.2.2.2.2]) rfl ⟨rfl, hbl⟩
            | true =>
            cases hk1' : numOk x1 with
            | false =>
              have HN0 := Lib.hid (show numR x0 = numV x0 by unfold numR; rw [hk0]; rfl)
              have hg0 : ¬ numV x0 < 0 := by have := numV_nonneg x0; omega
              have HN1 := Lib.hid (show numR x1 = -1 by unfold numR; rw [hk1']; rfl)
              obtain ⟨y2, HN2⟩ : ∃ y, Hid (numR x2 = y) := ⟨_, Lib.hid rfl⟩
              have e : parseB s = errV := errOf (by rw [hx]; simp [hk0, hk1'])
              rw [e]
              clear e errOf hk0 hk1'
              go_enter Tryz.func71, Tryz.ntmps71
              go_wp2_with (first
                | (exfalso; rename_i hu _; simp [undef] at hu; done)
                | (go_at_call 72; first | (rw [HTE.out]; refine (find43 T hT1 _).mono ?_; rw [HK1.out]; rintro e w' ⟨rfl, rfl⟩) | (rw [HR1.out]; refine (find45 R1 hR1 _).mono ?_; rw [HK2.out]; rintro e w' ⟨rfl, rfl⟩))
                | (go_at_call 101; rw [HME.out]; refine (identifiers3 ME false hME _).mono ?_; rw [HBM.out]; rintro e w1 ⟨rfl, hb1⟩; have h0w1 : w1.heap[w.heap.size]? = some (.cells #[.int .i64 0, .int .i64 0, .int .i64 0, .string ⟨#[]⟩, .string ⟨#[]⟩] 87) := (hb1.block _ (by first | omega | (simp <;> omega))).trans (by first | exact (Below.heap_alloc _ _ _ (by simp)).trans (newAt _ _ _ rfl)); have h1w1 : w1.heap[(w.heap.size + 1)]? = some (.cells #[.int .i64 0, .int .i64 0, .int .i64 0, .string ⟨#[]⟩, .string ME] 87) := (hb1.block _ (by first | omega | (simp <;> omega))).trans (by first | exact newAt _ _ _ (by simp)); have hww1 : Below w.heap.size w w1 := Below.trans (by first | exact ((Below.refl _ w).alloc (Nat.le_refl _) _).alloc (by simp) _) (hb1.mono (by first | omega | (simp <;> omega))); have hzw1 : w.heap.size + 1 < w1.heap.size := (Array.getElem?_eq_some_iff.1 h1w1).1; obtain ⟨⟨p0w1, p1w1, p2w1, p3w1, p4w1⟩, f0w1, f1w1, f2w1, f3w1, f4w1⟩ := c5 h0w1; obtain ⟨⟨q0w1, q1w1, q2w1, q3w1, q4w1⟩, r0w1, r1w1, r2w1, r3w1, r4w1⟩ := c5 h1w1)
                | (go_at_call 101; rw [HPR.out]; refine (identifiers3 PR true hPR _).mono ?_; rw [HBP.out]; rintro e w2 ⟨rfl, hb2⟩; have h0w2 : w2.heap[w.heap.size]? = some (.cells #[.int .i64 0, .int .i64 0, .int .i64 0, .string ⟨#[]⟩, .string ⟨#[]⟩] 87) := (hb2.block _ (by first | omega | (simp <;> omega))).trans (by first | exact (Below.heap_alloc _ _ _ (by simp)).trans (newAt _ _ _ rfl) | exact h0w1 | (simp [World.setCell, Array.getElem?_modify, h0w1]; done)); have h1w2 : w2.heap[(w.heap.size + 1)]? = some (.cells #[.int .i64 0, .int .i64 0, .int .i64 0, .string PR, .string ME] 87) := (hb2.block _ (by first | omega | (simp <;> omega))).trans (by first | exact newAt _ _ _ (by simp) | exact h1w1 | (simp [World.setCell, Array.getElem?_modify, h1w1]; done)); have hww2 : Below w.heap.size w w2 := Below.trans (by first | exact ((Below.refl _ w).alloc (Nat.le_refl _) _).alloc (by simp) _ | exact hww1 | exact hww1.setCell (p := ⟨w.heap.size + 1, 3, none⟩) (by simp) _) (hb2.mono (by first | omega | (simp <;> omega))); have hzw2 : w.heap.size + 1 < w2.heap.size := (Array.getElem?_eq_some_iff.1 h1w2).1; obtain ⟨⟨p0w2, p1w2, p2w2, p3w2, p4w2⟩, f0w2, f1w2, f2w2, f3w2, f4w2⟩ := c5 h0w2; obtain ⟨⟨q0w2, q1w2, q2w2, q3w2, q4w2⟩, r0w2, r1w2, r2w2, r3w2, r4w2⟩ := c5 h1w2)
                | (go_at_call 75; rw [HR2.out]; refine (split46 R2 hR2 _).mono ?_; rintro e w3 ⟨v, rfl, hrow, hb3⟩; rw [HLN.out] at hrow; obtain ⟨g, cap, hv⟩ := ownsRow_succ hrow; subst hv; have h0w3 : w3.heap[w.heap.size]? = some (.cells #[.int .i64 0, .int .i64 0, .int .i64 0, .string ⟨#[]⟩, .string ⟨#[]⟩] 87) := (hb3.block _ (by first | omega | (simp <;> omega))).trans (by first | exact (Below.heap_alloc _ _ _ (by simp)).trans (newAt _ _ _ rfl) | exact h0w2 | (simp [World.setCell, Array.getElem?_modify, h0w2]; done)); have h1w3 : w3.heap[(w.heap.size + 1)]? = some (.cells #[.int .i64 0, .int .i64 0, .int .i64 0, .string PR, .string ME] 87) := (hb3.block _ (by first | omega | (simp <;> omega))).trans (by first | exact newAt _ _ _ (by simp) | exact h1w2 | (simp [World.setCell, Array.getElem?_modify, h1w2]; done)); have hww3 : Below w.heap.size w w3 := Below.trans (by first | exact ((Below.refl _ w).alloc (Nat.le_refl _) _).alloc (by simp) _ | exact hww2 | exact hww2.setCell (p := ⟨w.heap.size + 1, 3, none⟩) (by simp) _) (hb3.mono (by first | omega | (simp <;> omega))); have hzw3 : w.heap.size + 1 < w3.heap.size := (Array.getElem?_eq_some_iff.1 h1w3).1; obtain ⟨⟨p0w3, p1w3, p2w3, p3w3, p4w3⟩, f0w3, f1w3, f2w3, f3w3, f4w3⟩ := c5 h0w3; obtain ⟨⟨q0w3, q1w3, q2w3, q3w3, q4w3⟩, r0w3, r1w3, r2w3, r3w3, r4w3⟩ := c5 h1w3; rw [HX.out] at hrow; have n0 := hrow.cellAt 0 (by decide); have n1 := hrow.cellAt 1 (by decide); have n2 := hrow.cellAt 2 (by decide); simp only [List.map_cons, List.map_nil, List.getElem?_cons_zero, List.getElem?_cons_succ] at n0 n1 n2)
                | (go_at_call 102; first | (with_reducible refine (number3 x0 (by assumption) _).mono ?_; rw [HN0.out]; rintro e w' ⟨rfl, rfl⟩) | (with_reducible refine (number3 x1 (by assumption) _).mono ?_; rw [HN1.out]; rintro e w' ⟨rfl, rfl⟩) | (with_reducible refine (number3 x2 (by assumption) _).mono ?_; rw [HN2.out]; rintro e w' ⟨rfl, rfl⟩)))
              have hv0 := (set3_other (V := w3) (b := w.heap.size + 1) (k := w.heap.size) (by omega) (.int .i64 (numV x0)) (.int .i64 (-1)) (.int .i64 y2)).trans h0w3
              have hG := c5 (set5 hv0 (.int .i64 0) (.int .i64 0) (.int .i64 0) (.string ⟨#[]⟩) (.string ⟨#[]⟩))
              have hbl := set5_below (set3_below (b := w.heap.size + 1) hww3 (by omega) (.int .i64 (numV x0)) (.int .i64 (-1)) (.int .i64 y2)) (Nat.le_refl _) (.int .i64 0) (.int .i64 0) (.int .i64 0) (.string ⟨#[]⟩) (.string ⟨#[]⟩)
              refine bodyPost_ret (v := verV errV) (by simp [verV, errV, results, Tryz.f71, go_sem, hG.1.1, hG.1.2.1, hG.1.2.2.1, hG.1.2.2.2.1, hG.1.2.2.2.2]) rfl ⟨rfl, hbl⟩
            | true =>
            cases hk2' : numOk x2 with
            | false =>
              have HN0 := Lib.hid (show numR x0 = numV x0 by unfold numR; rw [hk0]; rfl)
              have hg0 : ¬ numV x0 < 0 := by have := numV_nonneg x0; omega
              have HN1 := Lib.hid (show numR x1 = numV x1 by unfold numR; rw [hk1']; rfl)
              have hg1 : ¬ numV x1 < 0 := by have := numV_nonneg x1; omega
              have HN2 := Lib.hid (show numR x2 = -1 by unfold numR; rw [hk2']; rfl)
              have e : parseB s = errV := errOf (by rw [hx]; simp [hk0, hk1', hk2'])
              rw [e]
              clear e errOf hk0 hk1' hk2'
              go_enter Tryz.func71, Tryz.ntmps71
              go_wp2_with (first
                | (exfalso; rename_i hu _; simp [undef] at hu; done)
                | (go_at_call 72; first | (rw [HTE.out]; refine (find43 T hT1 _).mono ?_; rw [HK1.out]; rintro e w' ⟨rfl, rfl⟩) | (rw [HR1.out]; refine (find45 R1 hR1 _).mono ?_; rw [HK2.out]; rintro e w' ⟨rfl, rfl⟩))
                | (go_at_call 101; rw [HME.out]; refine (identifiers3 ME false hME _).mono ?_; rw [HBM.out]; rintro e w1 ⟨rfl, hb1⟩; have h0w1 : w1.heap[w.heap.size]? = some (.cells #[.int .i64 0, .int .i64 0, .int .i64 0, .string ⟨#[]⟩, .string ⟨#[]⟩] 87) := (hb1.block _ (by first | omega | (simp <;> omega))).trans (by first | exact (Below.heap_alloc _ _ _ (by simp)).trans (newAt _ _ _ rfl)); have h1w1 : w1.heap[(w.heap.size + 1)]? = some (.cells #[.int .i64 0, .int .i64 0, .int .i64 0, .string ⟨#[]⟩, .string ME] 87) := (hb1.block _ (by first | omega | (simp <;> omega))).trans (by first | exact newAt _ _ _ (by simp)); have hww1 : Below w.heap.size w w1 := Below.trans (by first | exact ((Below.refl _ w).alloc (Nat.le_refl _) _).alloc (by simp) _) (hb1.mono (by first | omega | (simp <;> omega))); have hzw1 : w.heap.size + 1 < w1.heap.size := (Array.getElem?_eq_some_iff.1 h1w1).1; obtain ⟨⟨p0w1, p1w1, p2w1, p3w1, p4w1⟩, f0w1, f1w1, f2w1, f3w1, f4w1⟩ := c5 h0w1; obtain ⟨⟨q0w1, q1w1, q2w1, q3w1, q4w1⟩, r0w1, r1w1, r2w1, r3w1, r4w1⟩ := c5 h1w1)
                | (go_at_call 101; rw [HPR.out]; refine (identifiers3 PR true hPR _).mono ?_; rw [HBP.out]; rintro e w2 ⟨rfl, hb2⟩; have h0w2 : w2.heap[w.heap.size]? = some (.cells #[.int .i64 0, .int .i64 0, .int .i64 0, .string ⟨#[]⟩, .string ⟨#[]⟩] 87) := (hb2.block _ (by first | omega | (simp <;> omega))).trans (by first | exact (Below.heap_alloc _ _ _ (by simp)).trans (newAt _ _ _ rfl) | exact h0w1 | (simp [World.setCell, Array.getElem?_modify, h0w1]; done)); have h1w2 : w2.heap[(w.heap.size + 1)]? = some (.cells #[.int .i64 0, .int .i64 0, .int .i64 0, .string PR, .string ME] 87) := (hb2.block _ (by first | omega | (simp <;> omega))).trans (by first | exact newAt _ _ _ (by simp) | exact h1w1 | (simp [World.setCell, Array.getElem?_modify, h1w1]; done)); have hww2 : Below w.heap.size w w2 := Below.trans (by first | exact ((Below.refl _ w).alloc (Nat.le_refl _) _).alloc (by simp) _ | exact hww1 | exact hww1.setCell (p := ⟨w.heap.size + 1, 3, none⟩) (by simp) _) (hb2.mono (by first | omega | (simp <;> omega))); have hzw2 : w.heap.size + 1 < w2.heap.size := (Array.getElem?_eq_some_iff.1 h1w2).1; obtain ⟨⟨p0w2, p1w2, p2w2, p3w2, p4w2⟩, f0w2, f1w2, f2w2, f3w2, f4w2⟩ := c5 h0w2; obtain ⟨⟨q0w2, q1w2, q2w2, q3w2, q4w2⟩, r0w2, r1w2, r2w2, r3w2, r4w2⟩ := c5 h1w2)
                | (go_at_call 75; rw [HR2.out]; refine (split46 R2 hR2 _).mono ?_; rintro e w3 ⟨v, rfl, hrow, hb3⟩; rw [HLN.out] at hrow; obtain ⟨g, cap, hv⟩ := ownsRow_succ hrow; subst hv; have h0w3 : w3.heap[w.heap.size]? = some (.cells #[.int .i64 0, .int .i64 0, .int .i64 0, .string ⟨#[]⟩, .string ⟨#[]⟩] 87) := (hb3.block _ (by first | omega | (simp <;> omega))).trans (by first | exact (Below.heap_alloc _ _ _ (by simp)).trans (newAt _ _ _ rfl) | exact h0w2 | (simp [World.setCell, Array.getElem?_modify, h0w2]; done)); have h1w3 : w3.heap[(w.heap.size + 1)]? = some (.cells #[.int .i64 0, .int .i64 0, .int .i64 0, .string PR, .string ME] 87) := (hb3.block _ (by first | omega | (simp <;> omega))).trans (by first | exact newAt _ _ _ (by simp) | exact h1w2 | (simp [World.setCell, Array.getElem?_modify, h1w2]; done)); have hww3 : Below w.heap.size w w3 := Below.trans (by first | exact ((Below.refl _ w).alloc (Nat.le_refl _) _).alloc (by simp) _ | exact hww2 | exact hww2.setCell (p := ⟨w.heap.size + 1, 3, none⟩) (by simp) _) (hb3.mono (by first | omega | (simp <;> omega))); have hzw3 : w.heap.size + 1 < w3.heap.size := (Array.getElem?_eq_some_iff.1 h1w3).1; obtain ⟨⟨p0w3, p1w3, p2w3, p3w3, p4w3⟩, f0w3, f1w3, f2w3, f3w3, f4w3⟩ := c5 h0w3; obtain ⟨⟨q0w3, q1w3, q2w3, q3w3, q4w3⟩, r0w3, r1w3, r2w3, r3w3, r4w3⟩ := c5 h1w3; rw [HX.out] at hrow; have n0 := hrow.cellAt 0 (by decide); have n1 := hrow.cellAt 1 (by decide); have n2 := hrow.cellAt 2 (by decide); simp only [List.map_cons, List.map_nil, List.getElem?_cons_zero, List.getElem?_cons_succ] at n0 n1 n2)
                | (go_at_call 102; first | (with_reducible refine (number3 x0 (by assumption) _).mono ?_; rw [HN0.out]; rintro e w' ⟨rfl, rfl⟩) | (with_reducible refine (number3 x1 (by assumption) _).mono ?_; rw [HN1.out]; rintro e w' ⟨rfl, rfl⟩) | (with_reducible refine (number3 x2 (by assumption) _).mono ?_; rw [HN2.out]; rintro e w' ⟨rfl, rfl⟩)))
              have hv0 := (set3_other (V := w3) (b := w.heap.size + 1) (k := w.heap.size) (by omega) (.int .i64 (numV x0)) (.int .i64 (numV x1)) (.int .i64 (-1))).trans h0w3
              have hG := c5 (set5 hv0 (.int .i64 0) (.int .i64 0) (.int .i64 0) (.string ⟨#[]⟩) (.string ⟨#[]⟩))
              have hbl := set5_below (set3_below (b := w.heap.size + 1) hww3 (by omega) (.int .i64 (numV x0)) (.int .i64 (numV x1)) (.int .i64 (-1))) (Nat.le_refl _) (.int .i64 0) (.int .i64 0) (.int .i64 0) (.string ⟨#[]⟩) (.string ⟨#[]⟩)
              refine bodyPost_ret (v := verV errV) (by simp [verV, errV, results, Tryz.f71, go_sem, hG.1.1, hG.1.2.1, hG.1.2.2.1, hG.1.2.2.2.1, hG.1.2.2.2.2]) rfl ⟨rfl, hbl⟩
            | true =>
              have HN0 := Lib.hid (show numR x0 = numV x0 by unfold numR; rw [hk0]; rfl)
              have hg0 : ¬ numV x0 < 0 := by have := numV_nonneg x0; omega
              have HN1 := Lib.hid (show numR x1 = numV x1 by unfold numR; rw [hk1']; rfl)
              have hg1 : ¬ numV x1 < 0 := by have := numV_nonneg x1; omega
              have HN2 := Lib.hid (show numR x2 = numV x2 by unfold numR; rw [hk2']; rfl)
              have hg2 : ¬ numV x2 < 0 := by have := numV_nonneg x2; omega
              have ho : o0 = true := by
                rw [← ho0, beq_iff_eq]
                have := spl_count 46 R2.data.toList
                have hn' : (spl 46 R2.data.toList).length = 3 := by unfold splB at hl; rw [List.length_map] at hl; exact hl
                omega
              have e : parseB s = (numV x0, numV x1, numV x2, PR, ME, 0) := okOf hx (by rw [hx, ho]; simp [hk0, hk1', hk2'])
              rw [e]
              clear e errOf okOf ho ho0
              go_enter Tryz.func71, Tryz.ntmps71
              go_wp2_with (first
                | (exfalso; rename_i hu _; simp [undef] at hu; done)
                | (go_at_call 72; first | (rw [HTE.out]; refine (find43 T hT1 _).mono ?_; rw [HK1.out]; rintro e w' ⟨rfl, rfl⟩) | (rw [HR1.out]; refine (find45 R1 hR1 _).mono ?_; rw [HK2.out]; rintro e w' ⟨rfl, rfl⟩))
                | (go_at_call 101; rw [HME.out]; refine (identifiers3 ME false hME _).mono ?_; rw [HBM.out]; rintro e w1 ⟨rfl, hb1⟩; have h0w1 : w1.heap[w.heap.size]? = some (.cells #[.int .i64 0, .int .i64 0, .int .i64 0, .string ⟨#[]⟩, .string ⟨#[]⟩] 87) := (hb1.block _ (by first | omega | (simp <;> omega))).trans (by first | exact (Below.heap_alloc _ _ _ (by simp)).trans (newAt _ _ _ rfl)); have h1w1 : w1.heap[(w.heap.size + 1)]? = some (.cells #[.int .i64 0, .int .i64 0, .int .i64 0, .string ⟨#[]⟩, .string ME] 87) := (hb1.block _ (by first | omega | (simp <;> omega))).trans (by first | exact newAt _ _ _ (by simp)); have hww1 : Below w.heap.size w w1 := Below.trans (by first | exact ((Below.refl _ w).alloc (Nat.le_refl _) _).alloc (by simp) _) (hb1.mono (by first | omega | (simp <;> omega))); have hzw1 : w.heap.size + 1 < w1.heap.size := (Array.getElem?_eq_some_iff.1 h1w1).1; obtain ⟨⟨p0w1, p1w1, p2w1, p3w1, p4w1⟩, f0w1, f1w1, f2w1, f3w1, f4w1⟩ := c5 h0w1; obtain ⟨⟨q0w1, q1w1, q2w1, q3w1, q4w1⟩, r0w1, r1w1, r2w1, r3w1, r4w1⟩ := c5 h1w1)
                | (go_at_call 101; rw [HPR.out]; refine (identifiers3 PR true hPR _).mono ?_; rw [HBP.out]; rintro e w2 ⟨rfl, hb2⟩; have h0w2 : w2.heap[w.heap.size]? = some (.cells #[.int .i64 0, .int .i64 0, .int .i64 0, .string ⟨#[]⟩, .string ⟨#[]⟩] 87) := (hb2.block _ (by first | omega | (simp <;> omega))).trans (by first | exact (Below.heap_alloc _ _ _ (by simp)).trans (newAt _ _ _ rfl) | exact h0w1 | (simp [World.setCell, Array.getElem?_modify, h0w1]; done)); have h1w2 : w2.heap[(w.heap.size + 1)]? = some (.cells #[.int .i64 0, .int .i64 0, .int .i64 0, .string PR, .string ME] 87) := (hb2.block _ (by first | omega | (simp <;> omega))).trans (by first | exact newAt _ _ _ (by simp) | exact h1w1 | (simp [World.setCell, Array.getElem?_modify, h1w1]; done)); have hww2 : Below w.heap.size w w2 := Below.trans (by first | exact ((Below.refl _ w).alloc (Nat.le_refl _) _).alloc (by simp) _ | exact hww1 | exact hww1.setCell (p := ⟨w.heap.size + 1, 3, none⟩) (by simp) _) (hb2.mono (by first | omega | (simp <;> omega))); have hzw2 : w.heap.size + 1 < w2.heap.size := (Array.getElem?_eq_some_iff.1 h1w2).1; obtain ⟨⟨p0w2, p1w2, p2w2, p3w2, p4w2⟩, f0w2, f1w2, f2w2, f3w2, f4w2⟩ := c5 h0w2; obtain ⟨⟨q0w2, q1w2, q2w2, q3w2, q4w2⟩, r0w2, r1w2, r2w2, r3w2, r4w2⟩ := c5 h1w2)
                | (go_at_call 75; rw [HR2.out]; refine (split46 R2 hR2 _).mono ?_; rintro e w3 ⟨v, rfl, hrow, hb3⟩; rw [HLN.out] at hrow; obtain ⟨g, cap, hv⟩ := ownsRow_succ hrow; subst hv; have h0w3 : w3.heap[w.heap.size]? = some (.cells #[.int .i64 0, .int .i64 0, .int .i64 0, .string ⟨#[]⟩, .string ⟨#[]⟩] 87) := (hb3.block _ (by first | omega | (simp <;> omega))).trans (by first | exact (Below.heap_alloc _ _ _ (by simp)).trans (newAt _ _ _ rfl) | exact h0w2 | (simp [World.setCell, Array.getElem?_modify, h0w2]; done)); have h1w3 : w3.heap[(w.heap.size + 1)]? = some (.cells #[.int .i64 0, .int .i64 0, .int .i64 0, .string PR, .string ME] 87) := (hb3.block _ (by first | omega | (simp <;> omega))).trans (by first | exact newAt _ _ _ (by simp) | exact h1w2 | (simp [World.setCell, Array.getElem?_modify, h1w2]; done)); have hww3 : Below w.heap.size w w3 := Below.trans (by first | exact ((Below.refl _ w).alloc (Nat.le_refl _) _).alloc (by simp) _ | exact hww2 | exact hww2.setCell (p := ⟨w.heap.size + 1, 3, none⟩) (by simp) _) (hb3.mono (by first | omega | (simp <;> omega))); have hzw3 : w.heap.size + 1 < w3.heap.size := (Array.getElem?_eq_some_iff.1 h1w3).1; obtain ⟨⟨p0w3, p1w3, p2w3, p3w3, p4w3⟩, f0w3, f1w3, f2w3, f3w3, f4w3⟩ := c5 h0w3; obtain ⟨⟨q0w3, q1w3, q2w3, q3w3, q4w3⟩, r0w3, r1w3, r2w3, r3w3, r4w3⟩ := c5 h1w3; rw [HX.out] at hrow; have n0 := hrow.cellAt 0 (by decide); have n1 := hrow.cellAt 1 (by decide); have n2 := hrow.cellAt 2 (by decide); simp only [List.map_cons, List.map_nil, List.getElem?_cons_zero, List.getElem?_cons_succ] at n0 n1 n2)
                | (go_at_call 102; first | (with_reducible refine (number3 x0 (by assumption) _).mono ?_; rw [HN0.out]; rintro e w' ⟨rfl, rfl⟩) | (with_reducible refine (number3 x1 (by assumption) _).mono ?_; rw [HN1.out]; rintro e w' ⟨rfl, rfl⟩) | (with_reducible refine (number3 x2 (by assumption) _).mono ?_; rw [HN2.out]; rintro e w' ⟨rfl, rfl⟩)))
              have hv0 := (set3_other (V := w3) (b := w.heap.size + 1) (k := w.heap.size) (by omega) (.int .i64 (numV x0)) (.int .i64 (numV x1)) (.int .i64 (numV x2))).trans h0w3
              have hG := c5 (set5 hv0 (.int .i64 (numV x0)) (.int .i64 (numV x1)) (.int .i64 (numV x2)) (.string PR) (.string ME))
              have hbl := set5_below (set3_below (b := w.heap.size + 1) hww3 (by omega) (.int .i64 (numV x0)) (.int .i64 (numV x1)) (.int .i64 (numV x2))) (Nat.le_refl _) (.int .i64 (numV x0)) (.int .i64 (numV x1)) (.int .i64 (numV x2)) (.string PR) (.string ME)
              refine bodyPost_ret (v := verV (numV x0, numV x1, numV x2, PR, ME, 0)) (by simp [verV, errV, results, Tryz.f71, go_sem, hG.1.1, hG.1.2.1, hG.1.2.2.1, hG.1.2.2.2.1, hG.1.2.2.2.2]) rfl ⟨rfl, hbl⟩
          · obtain ⟨n, hn⟩ : ∃ n, (splB 46 R2).length = n + 1 := ⟨(splB 46 R2).length - 1, by have := spl_pos 46 R2; omega⟩
            have HLN := Lib.hid hn
            have hq1 : (((n + 1 : Nat) : Int) != 3) = true := by rw [bne_iff_ne]; omega
            have hq2 : ((n : Int) + 1 != 3) = true := by rw [bne_iff_ne]; omega
            have ho : o0 = false := by
              rw [← ho0, beq_eq_false_iff_ne]
              have := spl_count 46 R2.data.toList
              have hn' : (spl 46 R2.data.toList).length = n + 1 := by unfold splB at hn; rw [List.length_map] at hn; exact hn
              omega
            have e : parseB s = errV := errOf (by rw [ho]; rfl)
            rw [e]
            clear e ho ho0 hn hl errOf
            go_enter Tryz.func71, Tryz.ntmps71
            go_wp2_with (first
              | (exfalso; rename_i hu _; simp [undef] at hu; done)
              | (go_at_call 72; first | (rw [HTE.out]; refine (find43 T hT1 _).mono ?_; rw [HK1.out]; rintro e w' ⟨rfl, rfl⟩) | (rw [HR1.out]; refine (find45 R1 hR1 _).mono ?_; rw [HK2.out]; rintro e w' ⟨rfl, rfl⟩))
              | (go_at_call 101; rw [HME.out]; refine (identifiers3 ME false hME _).mono ?_; rw [HBM.out]; rintro e w1 ⟨rfl, hb1⟩; have h0w1 : w1.heap[w.heap.size]? = some (.cells #[.int .i64 0, .int .i64 0, .int .i64 0, .string ⟨#[]⟩, .string ⟨#[]⟩] 87) := (hb1.block _ (by first | omega | (simp <;> omega))).trans (by first | exact (Below.heap_alloc _ _ _ (by simp)).trans (newAt _ _ _ rfl)); have h1w1 : w1.heap[(w.heap.size + 1)]? = some (.cells #[.int .i64 0, .int .i64 0, .int .i64 0, .string ⟨#[]⟩, .string ME] 87) := (hb1.block _ (by first | omega | (simp <;> omega))).trans (by first | exact newAt _ _ _ (by simp)); have hww1 : Below w.heap.size w w1 := Below.trans (by first | exact ((Below.refl _ w).alloc (Nat.le_refl _) _).alloc (by simp) _) (hb1.mono (by first | omega | (simp <;> omega))); have hzw1 : w.heap.size + 1 < w1.heap.size := (Array.getElem?_eq_some_iff.1 h1w1).1; obtain ⟨⟨p0w1, p1w1, p2w1, p3w1, p4w1⟩, f0w1, f1w1, f2w1, f3w1, f4w1⟩ := c5 h0w1; obtain ⟨⟨q0w1, q1w1, q2w1, q3w1, q4w1⟩, r0w1, r1w1, r2w1, r3w1, r4w1⟩ := c5 h1w1)
              | (go_at_call 101; rw [HPR.out]; refine (identifiers3 PR true hPR _).mono ?_; rw [HBP.out]; rintro e w2 ⟨rfl, hb2⟩; have h0w2 : w2.heap[w.heap.size]? = some (.cells #[.int .i64 0, .int .i64 0, .int .i64 0, .string ⟨#[]⟩, .string ⟨#[]⟩] 87) := (hb2.block _ (by first | omega | (simp <;> omega))).trans (by first | exact (Below.heap_alloc _ _ _ (by simp)).trans (newAt _ _ _ rfl) | exact h0w1 | (simp [World.setCell, Array.getElem?_modify, h0w1]; done)); have h1w2 : w2.heap[(w.heap.size + 1)]? = some (.cells #[.int .i64 0, .int .i64 0, .int .i64 0, .string PR, .string ME] 87) := (hb2.block _ (by first | omega | (simp <;> omega))).trans (by first | exact newAt _ _ _ (by simp) | exact h1w1 | (simp [World.setCell, Array.getElem?_modify, h1w1]; done)); have hww2 : Below w.heap.size w w2 := Below.trans (by first | exact ((Below.refl _ w).alloc (Nat.le_refl _) _).alloc (by simp) _ | exact hww1 | exact hww1.setCell (p := ⟨w.heap.size + 1, 3, none⟩) (by simp) _) (hb2.mono (by first | omega | (simp <;> omega))); have hzw2 : w.heap.size + 1 < w2.heap.size := (Array.getElem?_eq_some_iff.1 h1w2).1; obtain ⟨⟨p0w2, p1w2, p2w2, p3w2, p4w2⟩, f0w2, f1w2, f2w2, f3w2, f4w2⟩ := c5 h0w2; obtain ⟨⟨q0w2, q1w2, q2w2, q3w2, q4w2⟩, r0w2, r1w2, r2w2, r3w2, r4w2⟩ := c5 h1w2)
              | (go_at_call 75; rw [HR2.out]; refine (split46 R2 hR2 _).mono ?_; rintro e w3 ⟨v, rfl, hrow, hb3⟩; rw [HLN.out] at hrow; obtain ⟨g, cap, hv⟩ := ownsRow_succ hrow; subst hv; have h0w3 : w3.heap[w.heap.size]? = some (.cells #[.int .i64 0, .int .i64 0, .int .i64 0, .string ⟨#[]⟩, .string ⟨#[]⟩] 87) := (hb3.block _ (by first | omega | (simp <;> omega))).trans (by first | exact (Below.heap_alloc _ _ _ (by simp)).trans (newAt _ _ _ rfl) | exact h0w2 | (simp [World.setCell, Array.getElem?_modify, h0w2]; done)); have h1w3 : w3.heap[(w.heap.size + 1)]? = some (.cells #[.int .i64 0, .int .i64 0, .int .i64 0, .string PR, .string ME] 87) := (hb3.block _ (by first | omega | (simp <;> omega))).trans (by first | exact newAt _ _ _ (by simp) | exact h1w2 | (simp [World.setCell, Array.getElem?_modify, h1w2]; done)); have hww3 : Below w.heap.size w w3 := Below.trans (by first | exact ((Below.refl _ w).alloc (Nat.le_refl _) _).alloc (by simp) _ | exact hww2 | exact hww2.setCell (p := ⟨w.heap.size + 1, 3, none⟩) (by simp) _) (hb3.mono (by first | omega | (simp <;> omega))); have hzw3 : w.heap.size + 1 < w3.heap.size := (Array.getElem?_eq_some_iff.1 h1w3).1; obtain ⟨⟨p0w3, p1w3, p2w3, p3w3, p4w3⟩, f0w3, f1w3, f2w3, f3w3, f4w3⟩ := c5 h0w3; obtain ⟨⟨q0w3, q1w3, q2w3, q3w3, q4w3⟩, r0w3, r1w3, r2w3, r3w3, r4w3⟩ := c5 h1w3))
            have hG := c5 (set5 h0w3 (.int .i64 0) (.int .i64 0) (.int .i64 0) (.string ⟨#[]⟩) (.string ⟨#[]⟩))
            have hbl := set5_below hww3 (Nat.le_refl _) (.int .i64 0) (.int .i64 0) (.int .i64 0) (.string ⟨#[]⟩) (.string ⟨#[]⟩)
            refine bodyPost_ret (v := verV errV) (by simp [verV, errV, results, Tryz.f71, go_sem, hG.1.1, hG.1.2.1, hG.1.2.2.1, hG.1.2.2.2.1, hG.1.2.2.2.2]) rfl ⟨rfl, hbl⟩
      · have hkp : ¬ ((k2 : Int) < R1.size) := by omega
        simp only [cp, if_false, decide_false, all_gpf, Bool.and_true] at PE
        have errOf : (o0 && (splB 46 R2).all numOk) = false → parseB s = errV := fun h => by rw [PE, h]; rfl
        have okOf : ∀ {x0 x1 x2}, splB 46 R2 = [x0, x1, x2] → (o0 && (splB 46 R2).all numOk) = true → parseB s = (numV x0, numV x1, numV x2, ⟨#[]⟩, ME, 0) := fun hx h => by rw [PE, h, hx]; rfl
        clear PE
        by_cases hl : (splB 46 R2).length = 3
        · obtain ⟨x0, x1, x2, hx⟩ : ∃ x0 x1 x2, splB 46 R2 = [x0, x1, x2] := by
            match h : splB 46 R2, hl with
            | [a, b, c], _ => exact ⟨a, b, c, rfl⟩
          have hx0 : x0.size ≤ 1048576 := OrderPre.splB_size 46 R2 hR2 x0 (by rw [hx]; simp)
          have hx1 : x1.size ≤ 1048576 := OrderPre.splB_size 46 R2 hR2 x1 (by rw [hx]; simp)
          have hx2 : x2.size ≤ 1048576 := OrderPre.splB_size 46 R2 hR2 x2 (by rw [hx]; simp)
          have HLN := Lib.hid (show (splB 46 R2).length = 2 + 1 from hl)
          have HX := Lib.hid (show (splB 46 R2).map Value.string = [.string x0, .string x1, .string x2] by rw [hx]; rfl)
          cases hk0 : numOk x0 with
          | false =>
            have HN0 := Lib.hid (show numR x0 = -1 by unfold numR; rw [hk0]; rfl)
            obtain ⟨y1, HN1⟩ : ∃ y, Hid (numR x1 = y) := ⟨_, Lib.hid rfl⟩
            obtain ⟨y2, HN2⟩ : ∃ y, Hid (numR x2 = y) := ⟨_, Lib.hid rfl⟩
            have e : parseB s = errV := errOf (by rw [hx]; simp [hk0])
            rw [e]
            clear e errOf hk0
            go_enter Tryz.func71, Tryz.ntmps71
            go_wp2_with (first
              | (exfalso; rename_i hu _; simp [undef] at hu; done)
              | (go_at_call 72; first | (rw [HTE.out]; refine (find43 T hT1 _).mono ?_; rw [HK1.out]; rintro e w' ⟨rfl, rfl⟩) | (rw [HR1.out]; refine (find45 R1 hR1 _).mono ?_; rw [HK2.out]; rintro e w' ⟨rfl, rfl⟩))
              | (go_at_call 101; rw [HME.out]; refine (identifiers3 ME false hME _).mono ?_; rw [HBM.out]; rintro e w1 ⟨rfl, hb1⟩; have h0w1 : w1.heap[w.heap.size]? = some (.cells #[.int .i64 0, .int .i64 0, .int .i64 0, .string ⟨#[]⟩, .string ⟨#[]⟩] 87) := (hb1.block _ (by first | omega | (simp <;> omega))).trans (by first | exact (Below.heap_alloc _ _ _ (by simp)).trans (newAt _ _ _ rfl)); have h1w1 : w1.heap[(w.heap.size + 1)]? = some (.cells #[.int .i64 0, .int .i64 0, .int .i64 0, .string ⟨#[]⟩, .string ME] 87) := (hb1.block _ (by first | omega | (simp <;> omega))).trans (by first | exact newAt _ _ _ (by simp)); have hww1 : Below w.heap.size w w1 := Below.trans (by first | exact ((Below.refl _ w).alloc (Nat.le_refl _) _).alloc (by simp) _) (hb1.mono (by first | omega | (simp <;> omega))); have hzw1 : w.heap.size + 1 < w1.heap.size := (Array.getElem?_eq_some_iff.1 h1w1).1; obtain ⟨⟨p0w1, p1w1, p2w1, p3w1, p4w1⟩, f0w1, f1w1, f2w1, f3w1, f4w1⟩ := c5 h0w1; obtain ⟨⟨q0w1, q1w1, q2w1, q3w1, q4w1⟩, r0w1, r1w1, r2w1, r3w1, r4w1⟩ := c5 h1w1)
              | (go_at_call 75; rw [HR2.out]; refine (split46 R2 hR2 _).mono ?_; rintro e w3 ⟨v, rfl, hrow, hb3⟩; rw [HLN.out] at hrow; obtain ⟨g, cap, hv⟩ := ownsRow_succ hrow; subst hv; have h0w3 : w3.heap[w.heap.size]? = some (.cells #[.int .i64 0, .int .i64 0, .int .i64 0, .string ⟨#[]⟩, .string ⟨#[]⟩] 87) := (hb3.block _ (by first | omega | (simp <;> omega))).trans (by first | exact (Below.heap_alloc _ _ _ (by simp)).trans (newAt _ _ _ rfl) | exact h0w1 | (simp [World.setCell, Array.getElem?_modify, h0w1]; done)); have h1w3 : w3.heap[(w.heap.size + 1)]? = some (.cells #[.int .i64 0, .int .i64 0, .int .i64 0, .string ⟨#[]⟩, .string ME] 87) := (hb3.block _ (by first | omega | (simp <;> omega))).trans (by first | exact newAt _ _ _ (by simp) | exact h1w1 | (simp [World.setCell, Array.getElem?_modify, h1w1]; done)); have hww3 : Below w.heap.size w w3 := Below.trans (by first | exact ((Below.refl _ w).alloc (Nat.le_refl _) _).alloc (by simp) _ | exact hww1 | exact hww1.setCell (p := ⟨w.heap.size + 1, 3, none⟩) (by simp) _) (hb3.mono (by first | omega | (simp <;> omega))); have hzw3 : w.heap.size + 1 < w3.heap.size := (Array.getElem?_eq_some_iff.1 h1w3).1; obtain ⟨⟨p0w3, p1w3, p2w3, p3w3, p4w3⟩, f0w3, f1w3, f2w3, f3w3, f4w3⟩ := c5 h0w3; obtain ⟨⟨q0w3, q1w3, q2w3, q3w3, q4w3⟩, r0w3, r1w3, r2w3, r3w3, r4w3⟩ := c5 h1w3; rw [HX.out] at hrow; have n0 := hrow.cellAt 0 (by decide); have n1 := hrow.cellAt 1 (by decide); have n2 := hrow.cellAt 2 (by decide); simp only [List.map_cons, List.map_nil, List.getElem?_cons_zero, List.getElem?_cons_succ] at n0 n1 n2)
              | (go_at_call 102; first | (with_reducible refine (number3 x0 (by assumption) _).mono ?_; rw [HN0.out]; rintro e w' ⟨rfl, rfl⟩) | (with_reducible refine (number3 x1 (by assumption) _).mono ?_; rw [HN1.out]; rintro e w' ⟨rfl, rfl⟩) | (with_reducible refine (number3 x2 (by assumption) _).mono ?_; rw [HN2.out]; rintro e w' ⟨rfl, rfl⟩)))
            have hv0 := (set3_other (V := w3) (b := w.heap.size + 1) (k := w.heap.size) (by omega) (.int .i64 (-1)) (.int .i64 y1) (.int .i64 y2)).trans h0w3
            have hG := c5 (set5 hv0 (.int .i64 0) (.int .i64 0) (.int .i64 0) (.string ⟨#[]⟩) (.string ⟨#[]⟩))
            have hbl := set5_below (set3_below (b := w.heap.size + 1) hww3 (by omega) (.int .i64 (-1)) (.int .i64 y1) (.int .i64 y2)) (Nat.le_refl _) (.int .i64 0) (.int .i64 0) (.int .i64 0) (.string ⟨#[]⟩) (.string ⟨#[]⟩)
            refine bodyPost_ret (v := verV errV) (by simp [verV, errV, results, Tryz.f71, go_sem, hG.1.1, hG.1.2.1, hG.1.2.2.1, hG.1.2.2.2.1, hG.1.2.2.2.2]) rfl ⟨rfl, hbl⟩
          | true =>
          cases hk1' : numOk x1 with
          | false =>
            have HN0 := Lib.hid (show numR x0 = numV x0 by unfold numR; rw [hk0]; rfl)
            have hg0 : ¬ numV x0 < 0 := by have := numV_nonneg x0; omega
            have HN1 := Lib.hid (show numR x1 = -1 by unfold numR; rw [hk1']; rfl)
            obtain ⟨y2, HN2⟩ : ∃ y, Hid (numR x2 = y) := ⟨_, Lib.hid rfl⟩
            have e : parseB s = errV := errOf (by rw [hx]; simp [hk0, hk1'])
            rw [e]
            clear e errOf hk0 hk1'
            go_enter Tryz.func71, Tryz.ntmps71
            go_wp2_with (first
              | (exfalso; rename_i hu _; simp [undef] at hu; done)
              | (go_at_call 72; first | (rw [HTE.out]; refine (find43 T hT1 _).mono ?_; rw [HK1.out]; rintro e w' ⟨rfl, rfl⟩) | (rw [HR1.out]; refine (find45 R1 hR1 _).mono ?_; rw [HK2.out]; rintro e w' ⟨rfl, rfl⟩))
              | (go_at_call 101; rw [HME.out]; refine (identifiers3 ME false hME _).mono ?_; rw [HBM.out]; rintro e w1 ⟨rfl, hb1⟩; have h0w1 : w1.heap[w.heap.size]? = some (.cells #[.int .i64 0, .int .i64 0, .int .i64 0, .string ⟨#[]⟩, .string ⟨#[]⟩] 87) := (hb1.block _ (by first | omega | (simp <;> omega))).trans (by first | exact (Below.heap_alloc _ _ _ (by simp)).trans (newAt _ _ _ rfl)); have h1w1 : w1.heap[(w.heap.size + 1)]? = some (.cells #[.int .i64 0, .int .i64 0, .int .i64 0, .string ⟨#[]⟩, .string ME] 87) := (hb1.block _ (by first | omega | (simp <;> omega))).trans (by first | exact newAt _ _ _ (by simp)); have hww1 : Below w.heap.size w w1 := Below.trans (by first | exact ((Below.refl _ w).alloc (Nat.le_refl _) _).alloc (by simp) _) (hb1.mono (by first | omega | (simp <;> omega))); have hzw1 : w.heap.size + 1 < w1.heap.size := (Array.getElem?_eq_some_iff.1 h1w1).1; obtain ⟨⟨p0w1, p1w1, p2w1, p3w1, p4w1⟩, f0w1, f1w1, f2w1, f3w1, f4w1⟩ := c5 h0w1; obtain ⟨⟨q0w1, q1w1, q2w1, q3w1, q4w1⟩, r0w1, r1w1, r2w1, r3w1, r4w1⟩ := c5 h1w1)
              | (go_at_call 75; rw [HR2.out]; refine (split46 R2 hR2 _).mono ?_; rintro e w3 ⟨v, rfl, hrow, hb3⟩; rw [HLN.out] at hrow; obtain ⟨g, cap, hv⟩ := ownsRow_succ hrow; subst hv; have h0w3 : w3.heap[w.heap.size]? = some (.cells #[.int .i64 0, .int .i64 0, .int .i64 0, .string ⟨#[]⟩, .string ⟨#[]⟩] 87) := (hb3.block _ (by first | omega | (simp <;> omega))).trans (by first | exact (Below.heap_alloc _ _ _ (by simp)).trans (newAt _ _ _ rfl) | exact h0w1 | (simp [World.setCell, Array.getElem?_modify, h0w1]; done)); have h1w3 : w3.heap[(w.heap.size + 1)]? = some (.cells #[.int .i64 0, .int .i64 0, .int .i64 0, .string ⟨#[]⟩, .string ME] 87) := (hb3.block _ (by first | omega | (simp <;> omega))).trans (by first | exact newAt _ _ _ (by simp) | exact h1w1 | (simp [World.setCell, Array.getElem?_modify, h1w1]; done)); have hww3 : Below w.heap.size w w3 := Below.trans (by first | exact ((Below.refl _ w).alloc (Nat.le_refl _) _).alloc (by simp) _ | exact hww1 | exact hww1.setCell (p := ⟨w.heap.size + 1, 3, none⟩) (by simp) _) (hb3.mono (by first | omega | (simp <;> omega))); have hzw3 : w.heap.size + 1 < w3.heap.size := (Array.getElem?_eq_some_iff.1 h1w3).1; obtain ⟨⟨p0w3, p1w3, p2w3, p3w3, p4w3⟩, f0w3, f1w3, f2w3, f3w3, f4w3⟩ := c5 h0w3; obtain ⟨⟨q0w3, q1w3, q2w3, q3w3, q4w3⟩, r0w3, r1w3, r2w3, r3w3, r4w3⟩ := c5 h1w3; rw [HX.out] at hrow; have n0 := hrow.cellAt 0 (by decide); have n1 := hrow.cellAt 1 (by decide); have n2 := hrow.cellAt 2 (by decide); simp only [List.map_cons, List.map_nil, List.getElem?_cons_zero, List.getElem?_cons_succ] at n0 n1 n2)
              | (go_at_call 102; first | (with_reducible refine (number3 x0 (by assumption) _).mono ?_; rw [HN0.out]; rintro e w' ⟨rfl, rfl⟩) | (with_reducible refine (number3 x1 (by assumption) _).mono ?_; rw [HN1.out]; rintro e w' ⟨rfl, rfl⟩) | (with_reducible refine (number3 x2 (by assumption) _).mono ?_; rw [HN2.out]; rintro e w' ⟨rfl, rfl⟩)))
            have hv0 := (set3_other (V := w3) (b := w.heap.size + 1) (k := w.heap.size) (by omega) (.int .i64 (numV x0)) (.int .i64 (-1)) (.int .i64 y2)).trans h0w3
            have hG := c5 (set5 hv0 (.int .i64 0) (.int .i64 0) (.int .i64 0) (.string ⟨#[]⟩) (.string ⟨#[]⟩))
            have hbl := set5_below (set3_below (b := w.heap.size + 1) hww3 (by omega) (.int .i64 (numV x0)) (.int .i64 (-1)) (.int .i64 y2)) (Nat.le_refl _) (.int .i64 0) (.int .i64 0) (.int .i64 0) (.string ⟨#[]⟩) (.string ⟨#[]⟩)
            refine bodyPost_ret (v := verV errV) (by simp [verV, errV, results, Tryz.f71, go_sem, hG.1.1, hG.1.2.1, hG.1.2.2.1, hG.1.2.2.2.1, hG.1.2.2.2.2]) rfl ⟨rfl, hbl⟩
          | true =>
          cases hk2' : numOk x2 with
          | false =>
            have HN0 := Lib.hid (show numR x0 = numV x0 by unfold numR; rw [hk0]; rfl)
            have hg0 : ¬ numV x0 < 0 := by have := numV_nonneg x0; omega
            have HN1 := Lib.hid (show numR x1 = numV x1 by unfold numR; rw [hk1']; rfl)
            have hg1 : ¬ numV x1 < 0 := by have := numV_nonneg x1; omega
            have HN2 := Lib.hid (show numR x2 = -1 by unfold numR; rw [hk2']; rfl)
            have e : parseB s = errV := errOf (by rw [hx]; simp [hk0, hk1', hk2'])
            rw [e]
            clear e errOf hk0 hk1' hk2'
            go_enter Tryz.func71, Tryz.ntmps71
            go_wp2_with (first
              | (exfalso; rename_i hu _; simp [undef] at hu; done)
              | (go_at_call 72; first | (rw [HTE.out]; refine (find43 T hT1 _).mono ?_; rw [HK1.out]; rintro e w' ⟨rfl, rfl⟩) | (rw [HR1.out]; refine (find45 R1 hR1 _).mono ?_; rw [HK2.out]; rintro e w' ⟨rfl, rfl⟩))
              | (go_at_call 101; rw [HME.out]; refine (identifiers3 ME false hME _).mono ?_; rw [HBM.out]; rintro e w1 ⟨rfl, hb1⟩; have h0w1 : w1.heap[w.heap.size]? = some (.cells #[.int .i64 0, .int .i64 0, .int .i64 0, .string ⟨#[]⟩, .string ⟨#[]⟩] 87) := (hb1.block _ (by first | omega | (simp <;> omega))).trans (by first | exact (Below.heap_alloc _ _ _ (by simp)).trans (newAt _ _ _ rfl)); have h1w1 : w1.heap[(w.heap.size + 1)]? = some (.cells #[.int .i64 0, .int .i64 0, .int .i64 0, .string ⟨#[]⟩, .string ME] 87) := (hb1.block _ (by first | omega | (simp <;> omega))).trans (by first | exact newAt _ _ _ (by simp)); have hww1 : Below w.heap.size w w1 := Below.trans (by first | exact ((Below.refl _ w).alloc (Nat.le_refl _) _).alloc (by simp) _) (hb1.mono (by first | omega | (simp <;> omega))); have hzw1 : w.heap.size + 1 < w1.heap.size := (Array.getElem?_eq_some_iff.1 h1w1).1; obtain ⟨⟨p0w1, p1w1, p2w1, p3w1, p4w1⟩, f0w1, f1w1, f2w1, f3w1, f4w1⟩ := c5 h0w1; obtain ⟨⟨q0w1, q1w1, q2w1, q3w1, q4w1⟩, r0w1, r1w1, r2w1, r3w1, r4w1⟩ := c5 h1w1)
              | (go_at_call 75; rw [HR2.out]; refine (split46 R2 hR2 _).mono ?_; rintro e w3 ⟨v, rfl, hrow, hb3⟩; rw [HLN.out] at hrow; obtain ⟨g, cap, hv⟩ := ownsRow_succ hrow; subst hv; have h0w3 : w3.heap[w.heap.size]? = some (.cells #[.int .i64 0, .int .i64 0, .int .i64 0, .string ⟨#[]⟩, .string ⟨#[]⟩] 87) := (hb3.block _ (by first | omega | (simp <;> omega))).trans (by first | exact (Below.heap_alloc _ _ _ (by simp)).trans (newAt _ _ _ rfl) | exact h0w1 | (simp [World.setCell, Array.getElem?_modify, h0w1]; done)); have h1w3 : w3.heap[(w.heap.size + 1)]? = some (.cells #[.int .i64 0, .int .i64 0, .int .i64 0, .string ⟨#[]⟩, .string ME] 87) := (hb3.block _ (by first | omega | (simp <;> omega))).trans (by first | exact newAt _ _ _ (by simp) | exact h1w1 | (simp [World.setCell, Array.getElem?_modify, h1w1]; done)); have hww3 : Below w.heap.size w w3 := Below.trans (by first | exact ((Below.refl _ w).alloc (Nat.le_refl _) _).alloc (by simp) _ | exact hww1 | exact hww1.setCell (p := ⟨w.heap.size + 1, 3, none⟩) (by simp) _) (hb3.mono (by first | omega | (simp <;> omega))); have hzw3 : w.heap.size + 1 < w3.heap.size := (Array.getElem?_eq_some_iff.1 h1w3).1; obtain ⟨⟨p0w3, p1w3, p2w3, p3w3, p4w3⟩, f0w3, f1w3, f2w3, f3w3, f4w3⟩ := c5 h0w3; obtain ⟨⟨q0w3, q1w3, q2w3, q3w3, q4w3⟩, r0w3, r1w3, r2w3, r3w3, r4w3⟩ := c5 h1w3; rw [HX.out] at hrow; have n0 := hrow.cellAt 0 (by decide); have n1 := hrow.cellAt 1 (by decide); have n2 := hrow.cellAt 2 (by decide); simp only [List.map_cons, List.map_nil, List.getElem?_cons_zero, List.getElem?_cons_succ] at n0 n1 n2)
              | (go_at_call 102; first | (with_reducible refine (number3 x0 (by assumption) _).mono ?_; rw [HN0.out]; rintro e w' ⟨rfl, rfl⟩) | (with_reducible refine (number3 x1 (by assumption) _).mono ?_; rw [HN1.out]; rintro e w' ⟨rfl, rfl⟩) | (with_reducible refine (number3 x2 (by assumption) _).mono ?_; rw [HN2.out]; rintro e w' ⟨rfl, rfl⟩)))
            have hv0 := (set3_other (V := w3) (b := w.heap.size + 1) (k := w.heap.size) (by omega) (.int .i64 (numV x0)) (.int .i64 (numV x1)) (.int .i64 (-1))).trans h0w3
            have hG := c5 (set5 hv0 (.int .i64 0) (.int .i64 0) (.int .i64 0) (.string ⟨#[]⟩) (.string ⟨#[]⟩))
            have hbl := set5_below (set3_below (b := w.heap.size + 1) hww3 (by omega) (.int .i64 (numV x0)) (.int .i64 (numV x1)) (.int .i64 (-1))) (Nat.le_refl _) (.int .i64 0) (.int .i64 0) (.int .i64 0) (.string ⟨#[]⟩) (.string ⟨#[]⟩)
            refine bodyPost_ret (v := verV errV) (by simp [verV, errV, results, Tryz.f71, go_sem, hG.1.1, hG.1.2.1, hG.1.2.2.1, hG.1.2.2.2.1, hG.1.2.2.2.2]) rfl ⟨rfl, hbl⟩
          | true =>
            have HN0 := Lib.hid (show numR x0 = numV x0 by unfold numR; rw [hk0]; rfl)
            have hg0 : ¬ numV x0 < 0 := by have := numV_nonneg x0; omega
            have HN1 := Lib.hid (show numR x1 = numV x1 by unfold numR; rw [hk1']; rfl)
            have hg1 : ¬ numV x1 < 0 := by have := numV_nonneg x1; omega
            have HN2 := Lib.hid (show numR x2 = numV x2 by unfold numR; rw [hk2']; rfl)
            have hg2 : ¬ numV x2 < 0 := by have := numV_nonneg x2; omega
            have ho : o0 = true := by
              rw [← ho0, beq_iff_eq]
              have := spl_count 46 R2.data.toList
              have hn' : (spl 46 R2.data.toList).length = 3 := by unfold splB at hl; rw [List.length_map] at hl; exact hl
              omega
            have e : parseB s = (numV x0, numV x1, numV x2, ⟨#[]⟩, ME, 0) := okOf hx (by rw [hx, ho]; simp [hk0, hk1', hk2'])
            rw [e]
            clear e errOf okOf ho ho0
            go_enter Tryz.func71, Tryz.ntmps71
            go_wp2_with (first
              | (exfalso; rename_i hu _; simp [undef] at hu; done)
              | (go_at_call 72; first | (rw [HTE.out]; refine (find43 T hT1 _).mono ?_; rw [HK1.out]; rintro e w' ⟨rfl, rfl⟩) | (rw [HR1.out]; refine (find45 R1 hR1 _).mono ?_; rw [HK2.out]; rintro e w' ⟨rfl, rfl⟩))
              | (go_at_call 101; rw [HME.out]; refine (identifiers3 ME false hME _).mono ?_; rw [HBM.out]; rintro e w1 ⟨rfl, hb1⟩; have h0w1 : w1.heap[w.heap.size]? = some (.cells #[.int .i64 0, .int .i64 0, .int .i64 0, .string ⟨#[]⟩, .string ⟨#[]⟩] 87) := (hb1.block _ (by first | omega | (simp <;> omega))).trans (by first | exact (Below.heap_alloc _ _ _ (by simp)).trans (newAt _ _ _ rfl)); have h1w1 : w1.heap[(w.heap.size + 1)]? = some (.cells #[.int .i64 0, .int .i64 0, .int .i64 0, .string ⟨#[]⟩, .string ME] 87) := (hb1.block _ (by first | omega | (simp <;> omega))).trans (by first | exact newAt _ _ _ (by simp)); have hww1 : Below w.heap.size w w1 := Below.trans (by first | exact ((Below.refl _ w).alloc (Nat.le_refl _) _).alloc (by simp) _) (hb1.mono (by first | omega | (simp <;> omega))); have hzw1 : w.heap.size + 1 < w1.heap.size := (Array.getElem?_eq_some_iff.1 h1w1).1; obtain ⟨⟨p0w1, p1w1, p2w1, p3w1, p4w1⟩, f0w1, f1w1, f2w1, f3w1, f4w1⟩ := c5 h0w1; obtain ⟨⟨q0w1, q1w1, q2w1, q3w1, q4w1⟩, r0w1, r1w1, r2w1, r3w1, r4w1⟩ := c5 h1w1)
              | (go_at_call 75; rw [HR2.out]; refine (split46 R2 hR2 _).mono ?_; rintro e w3 ⟨v, rfl, hrow, hb3⟩; rw [HLN.out] at hrow; obtain ⟨g, cap, hv⟩ := ownsRow_succ hrow; subst hv; have h0w3 : w3.heap[w.heap.size]? = some (.cells #[.int .i64 0, .int .i64 0, .int .i64 0, .string ⟨#[]⟩, .string ⟨#[]⟩] 87) := (hb3.block _ (by first | omega | (simp <;> omega))).trans (by first | exact (Below.heap_alloc _ _ _ (by simp)).trans (newAt _ _ _ rfl) | exact h0w1 | (simp [World.setCell, Array.getElem?_modify, h0w1]; done)); have h1w3 : w3.heap[(w.heap.size + 1)]? = some (.cells #[.int .i64 0, .int .i64 0, .int .i64 0, .string ⟨#[]⟩, .string ME] 87) := (hb3.block _ (by first | omega | (simp <;> omega))).trans (by first | exact newAt _ _ _ (by simp) | exact h1w1 | (simp [World.setCell, Array.getElem?_modify, h1w1]; done)); have hww3 : Below w.heap.size w w3 := Below.trans (by first | exact ((Below.refl _ w).alloc (Nat.le_refl _) _).alloc (by simp) _ | exact hww1 | exact hww1.setCell (p := ⟨w.heap.size + 1, 3, none⟩) (by simp) _) (hb3.mono (by first | omega | (simp <;> omega))); have hzw3 : w.heap.size + 1 < w3.heap.size := (Array.getElem?_eq_some_iff.1 h1w3).1; obtain ⟨⟨p0w3, p1w3, p2w3, p3w3, p4w3⟩, f0w3, f1w3, f2w3, f3w3, f4w3⟩ := c5 h0w3; obtain ⟨⟨q0w3, q1w3, q2w3, q3w3, q4w3⟩, r0w3, r1w3, r2w3, r3w3, r4w3⟩ := c5 h1w3; rw [HX.out] at hrow; have n0 := hrow.cellAt 0 (by decide); have n1 := hrow.cellAt 1 (by decide); have n2 := hrow.cellAt 2 (by decide); simp only [List.map_cons, List.map_nil, List.getElem?_cons_zero, List.getElem?_cons_succ] at n0 n1 n2)
              | (go_at_call 102; first | (with_reducible refine (number3 x0 (by assumption) _).mono ?_; rw [HN0.out]; rintro e w' ⟨rfl, rfl⟩) | (with_reducible refine (number3 x1 (by assumption) _).mono ?_; rw [HN1.out]; rintro e w' ⟨rfl, rfl⟩) | (with_reducible refine (number3 x2 (by assumption) _).mono ?_; rw [HN2.out]; rintro e w' ⟨rfl, rfl⟩)))
            have hv0 := (set3_other (V := w3) (b := w.heap.size + 1) (k := w.heap.size) (by omega) (.int .i64 (numV x0)) (.int .i64 (numV x1)) (.int .i64 (numV x2))).trans h0w3
            have hG := c5 (set5 hv0 (.int .i64 (numV x0)) (.int .i64 (numV x1)) (.int .i64 (numV x2)) (.string ⟨#[]⟩) (.string ME))
            have hbl := set5_below (set3_below (b := w.heap.size + 1) hww3 (by omega) (.int .i64 (numV x0)) (.int .i64 (numV x1)) (.int .i64 (numV x2))) (Nat.le_refl _) (.int .i64 (numV x0)) (.int .i64 (numV x1)) (.int .i64 (numV x2)) (.string ⟨#[]⟩) (.string ME)
            refine bodyPost_ret (v := verV (numV x0, numV x1, numV x2, ⟨#[]⟩, ME, 0)) (by simp [verV, errV, results, Tryz.f71, go_sem, hG.1.1, hG.1.2.1, hG.1.2.2.1, hG.1.2.2.2.1, hG.1.2.2.2.2]) rfl ⟨rfl, hbl⟩
        · obtain ⟨n, hn⟩ : ∃ n, (splB 46 R2).length = n + 1 := ⟨(splB 46 R2).length - 1, by have := spl_pos 46 R2; omega⟩
          have HLN := Lib.hid hn
          have hq1 : (((n + 1 : Nat) : Int) != 3) = true := by rw [bne_iff_ne]; omega
          have hq2 : ((n : Int) + 1 != 3) = true := by rw [bne_iff_ne]; omega
          have ho : o0 = false := by
            rw [← ho0, beq_eq_false_iff_ne]
            have := spl_count 46 R2.data.toList
            have hn' : (spl 46 R2.data.toList).length = n + 1 := by unfold splB at hn; rw [List.length_map] at hn; exact hn
            omega
          have e : parseB s = errV := errOf (by rw [ho]; rfl)
          rw [e]
          clear e ho ho0 hn hl errOf
          go_enter Tryz.func71, Tryz.ntmps71
          go_wp2_with (first
            | (exfalso; rename_i hu _; simp [undef] at hu; done)
            | (go_at_call 72; first | (rw [HTE.out]; refine (find43 T hT1 _).mono ?_; rw [HK1.out]; rintro e w' ⟨rfl, rfl⟩) | (rw [HR1.out]; refine (find45 R1 hR1 _).mono ?_; rw [HK2.out]; rintro e w' ⟨rfl, rfl⟩))
            | (go_at_call 101; rw [HME.out]; refine (identifiers3 ME false hME _).mono ?_; rw [HBM.out]; rintro e w1 ⟨rfl, hb1⟩; have h0w1 : w1.heap[w.heap.size]? = some (.cells #[.int .i64 0, .int .i64 0, .int .i64 0, .string ⟨#[]⟩, .string ⟨#[]⟩] 87) := (hb1.block _ (by first | omega | (simp <;> omega))).trans (by first | exact (Below.heap_alloc _ _ _ (by simp)).trans (newAt _ _ _ rfl)); have h1w1 : w1.heap[(w.heap.size + 1)]? = some (.cells #[.int .i64 0, .int .i64 0, .int .i64 0, .string ⟨#[]⟩, .string ME] 87) := (hb1.block _ (by first | omega | (simp <;> omega))).trans (by first | exact newAt _ _ _ (by simp)); have hww1 : Below w.heap.size w w1 := Below.trans (by first | exact ((Below.refl _ w).alloc (Nat.le_refl _) _).alloc (by simp) _) (hb1.mono (by first | omega | (simp <;> omega))); have hzw1 : w.heap.size + 1 < w1.heap.size := (Array.getElem?_eq_some_iff.1 h1w1).1; obtain ⟨⟨p0w1, p1w1, p2w1, p3w1, p4w1⟩, f0w1, f1w1, f2w1, f3w1, f4w1⟩ := c5 h0w1; obtain ⟨⟨q0w1, q1w1, q2w1, q3w1, q4w1⟩, r0w1, r1w1, r2w1, r3w1, r4w1⟩ := c5 h1w1)
            | (go_at_call 75; rw [HR2.out]; refine (split46 R2 hR2 _).mono ?_; rintro e w3 ⟨v, rfl, hrow, hb3⟩; rw [HLN.out] at hrow; obtain ⟨g, cap, hv⟩ := ownsRow_succ hrow; subst hv; have h0w3 : w3.heap[w.heap.size]? = some (.cells #[.int .i64 0, .int .i64 0, .int .i64 0, .string ⟨#[]⟩, .string ⟨#[]⟩] 87) := (hb3.block _ (by first | omega | (simp <;> omega))).trans (by first | exact (Below.heap_alloc _ _ _ (by simp)).trans (newAt _ _ _ rfl) | exact h0w1 | (simp [World.setCell, Array.getElem?_modify, h0w1]; done)); have h1w3 : w3.heap[(w.heap.size + 1)]? = some (.cells #[.int .i64 0, .int .i64 0, .int .i64 0, .string ⟨#[]⟩, .string ME] 87) := (hb3.block _ (by first | omega | (simp <;> omega))).trans (by first | exact newAt _ _ _ (by simp) | exact h1w1 | (simp [World.setCell, Array.getElem?_modify, h1w1]; done)); have hww3 : Below w.heap.size w w3 := Below.trans (by first | exact ((Below.refl _ w).alloc (Nat.le_refl _) _).alloc (by simp) _ | exact hww1 | exact hww1.setCell (p := ⟨w.heap.size + 1, 3, none⟩) (by simp) _) (hb3.mono (by first | omega | (simp <;> omega))); have hzw3 : w.heap.size + 1 < w3.heap.size := (Array.getElem?_eq_some_iff.1 h1w3).1; obtain ⟨⟨p0w3, p1w3, p2w3, p3w3, p4w3⟩, f0w3, f1w3, f2w3, f3w3, f4w3⟩ := c5 h0w3; obtain ⟨⟨q0w3, q1w3, q2w3, q3w3, q4w3⟩, r0w3, r1w3, r2w3, r3w3, r4w3⟩ := c5 h1w3))
          have hG := c5 (set5 h0w3 (.int .i64 0) (.int .i64 0) (.int .i64 0) (.string ⟨#[]⟩) (.string ⟨#[]⟩))
          have hbl := set5_below hww3 (Nat.le_refl _) (.int .i64 0) (.int .i64 0) (.int .i64 0) (.string ⟨#[]⟩) (.string ⟨#[]⟩)
          refine bodyPost_ret (v := verV errV) (by simp [verV, errV, results, Tryz.f71, go_sem, hG.1.1, hG.1.2.1, hG.1.2.2.1, hG.1.2.2.2.1, hG.1.2.2.2.2]) rfl ⟨rfl, hbl⟩
  · have hkm : ¬ ((k1 : Int) < T.size) := by omega
    simp only [cm, if_false, decide_false, all_gmf, Bool.and_true] at PE
    by_cases cp : k2 < R1.size
    · have hkp : ((k2 : Int) < R1.size) := by omega
      simp only [cp, if_true, decide_true] at PE
      cases hbp : (splB 46 PR).all (idOk true) with
      | false =>
        have HBP := Lib.hid hbp
        have e : parseB s = errV := by rw [PE, gp_t, hbp]; simp [errV]
        rw [e]
        clear PE e hbp
        go_enter Tryz.func71, Tryz.ntmps71
        go_wp2_with (first
          | (exfalso; rename_i hu _; simp [undef] at hu; done)
          | (go_at_call 72; first | (rw [HTE.out]; refine (find43 T hT1 _).mono ?_; rw [HK1.out]; rintro e w' ⟨rfl, rfl⟩) | (rw [HR1.out]; refine (find45 R1 hR1 _).mono ?_; rw [HK2.out]; rintro e w' ⟨rfl, rfl⟩))
          | (go_at_call 101; rw [HPR.out]; refine (identifiers3 PR true hPR _).mono ?_; rw [HBP.out]; rintro e w2 ⟨rfl, hb2⟩; have h0w2 : w2.heap[w.heap.size]? = some (.cells #[.int .i64 0, .int .i64 0, .int .i64 0, .string ⟨#[]⟩, .string ⟨#[]⟩] 87) := (hb2.block _ (by first | omega | (simp <;> omega))).trans (by first | exact (Below.heap_alloc _ _ _ (by simp)).trans (newAt _ _ _ rfl)); have h1w2 : w2.heap[(w.heap.size + 1)]? = some (.cells #[.int .i64 0, .int .i64 0, .int .i64 0, .string PR, .string ⟨#[]⟩] 87) := (hb2.block _ (by first | omega | (simp <;> omega))).trans (by first | exact newAt _ _ _ (by simp)); have hww2 : Below w.heap.size w w2 := Below.trans (by first | exact ((Below.refl _ w).alloc (Nat.le_refl _) _).alloc (by simp) _) (hb2.mono (by first | omega | (simp <;> omega))); have hzw2 : w.heap.size + 1 < w2.heap.size := (Array.getElem?_eq_some_iff.1 h1w2).1; obtain ⟨⟨p0w2, p1w2, p2w2, p3w2, p4w2⟩, f0w2, f1w2, f2w2, f3w2, f4w2⟩ := c5 h0w2; obtain ⟨⟨q0w2, q1w2, q2w2, q3w2, q4w2⟩, r0w2, r1w2, r2w2, r3w2, r4w2⟩ := c5 h1w2))
        have hG := c5 (set5 h0w2 (.int .i64 0) (.int .i64 0) (.int .i64 0) (.string ⟨#[]⟩) (.string ⟨#[]⟩))
        have hbl := set5_below hww2 (Nat.le_refl _) (.int .i64 0) (.int .i64 0) (.int .i64 0) (.string ⟨#[]⟩) (.string ⟨#[]⟩)
        refine bodyPost_ret (v := verV errV) (by simp [verV, errV, results, Tryz.f71, go_sem, hG.1.1, hG.1.2.1, hG.1.2.2.1, hG.1.2.2.2.1, hG.1.2.2.2.2]) rfl ⟨rfl, hbl⟩
      | true =>
        have HBP := Lib.hid hbp
        rw [gp_t, hbp] at PE
        have errOf : (o0 && (splB 46 R2).all numOk) = false → parseB s = errV := fun h => by rw [PE, h]; rfl
        have okOf : ∀ {x0 x1 x2}, splB 46 R2 = [x0, x1, x2] → (o0 && (splB 46 R2).all numOk) = true → parseB s = (numV x0, numV x1, numV x2, PR, ⟨#[]⟩, 0) := fun hx h => by rw [PE, h, hx]; rfl
        clear PE hbp
        by_cases hl : (splB 46 R2).length = 3
        · obtain ⟨x0, x1, x2, hx⟩ : ∃ x0 x1 x2, splB 46 R2 = [x0, x1, x2] := by
            match h : splB 46 R2, hl with
            | [a, b, c], _ => exact ⟨a, b, c, rfl⟩
          have hx0 : x0.size ≤ 1048576 := OrderPre.splB_size 46 R2 hR2 x0 (by rw [hx]; simp)
          have hx1 : x1.size ≤ 1048576 := OrderPre.splB_size 46 R2 hR2 x1 (by rw [hx]; simp)
          have hx2 : x2.size ≤ 1048576 := OrderPre.splB_size 46 R2 hR2 x2 (by rw [hx]; simp)
          have HLN := Lib.hid (show (splB 46 R2).length = 2 + 1 from hl)
          have HX := Lib.hid (show (splB 46 R2).map Value.string = [.string x0, .string x1, .string x2] by rw [hx]; rfl)
          cases hk0 : numOk x0 with
          | false =>
            have HN0 := Lib.hid (show numR x0 = -1 by unfold numR; rw [hk0]; rfl)
            obtain ⟨y1, HN1⟩ : ∃ y, Hid (numR x1 = y) := ⟨_, Lib.hid rfl⟩
            obtain ⟨y2, HN2⟩ : ∃ y, Hid (numR x2 = y) := ⟨_, Lib.hid rfl⟩
            have e : parseB s = errV := errOf (by rw [hx]; simp [hk0])
            rw [e]
            clear e errOf hk0
            go_enter Tryz.func71, Tryz.ntmps71
            go_wp2_with (first
              | (exfalso; rename_i hu _; simp [undef] at hu; done)
              | (go_at_call 72; first | (rw [HTE.out]; refine (find43 T hT1 _).mono ?_; rw [HK1.out]; rintro e w' ⟨rfl, rfl⟩) | (rw [HR1.out]; refine (find45 R1 hR1 _).mono ?_; rw [HK2.out]; rintro e w' ⟨rfl, rfl⟩))
              | (go_at_call 101; rw [HPR.out]; refine (identifiers3 PR true hPR _).mono ?_; rw [HBP.out]; rintro e w2 ⟨rfl, hb2⟩; have h0w2 : w2.heap[w.heap.size]? = some (.cells #[.int .i64 0, .int .i64 0, .int .i64 0, .string ⟨#[]⟩, .string ⟨#[]⟩] 87) := (hb2.block _ (by first | omega | (simp <;> omega))).trans (by first | exact (Below.heap_alloc _ _ _ (by simp)).trans (newAt _ _ _ rfl)); have h1w2 : w2.heap[(w.heap.size + 1)]? = some (.cells #[.int .i64 0, .int .i64 0, .int .i64 0, .string PR, .string ⟨#[]⟩] 87) := (hb2.block _ (by first | omega | (simp <;> omega))).trans (by first | exact newAt _ _ _ (by simp)); have hww2 : Below w.heap.size w w2 := Below.trans (by first | exact ((Below.refl _ w).alloc (Nat.le_refl _) _).alloc (by simp) _) (hb2.mono (by first | omega | (simp <;> omega))); have hzw2 : w.heap.size + 1 < w2.heap.size := (Array.getElem?_eq_some_iff.1 h1w2).1; obtain ⟨⟨p0w2, p1w2, p2w2, p3w2, p4w2⟩, f0w2, f1w2, f2w2, f3w2, f4w2⟩ := c5 h0w2; obtain ⟨⟨q0w2, q1w2, q2w2, q3w2, q4w2⟩, r0w2, r1w2, r2w2, r3w2, r4w2⟩ := c5 h1w2)
              | (go_at_call 75; rw [HR2.out]; refine (split46 R2 hR2 _).mono ?_; rintro e w3 ⟨v, rfl, hrow, hb3⟩; rw [HLN.out] at hrow; obtain ⟨g, cap, hv⟩ := ownsRow_succ hrow; subst hv; have h0w3 : w3.heap[w.heap.size]? = some (.cells #[.int .i64 0, .int .i64 0, .int .i64 0, .string ⟨#[]⟩, .string ⟨#[]⟩] 87) := (hb3.block _ (by first | omega | (simp <;> omega))).trans (by first | exact (Below.heap_alloc _ _ _ (by simp)).trans (newAt _ _ _ rfl) | exact h0w2 | (simp [World.setCell, Array.getElem?_modify, h0w2]; done)); have h1w3 : w3.heap[(w.heap.size + 1)]? = some (.cells #[.int .i64 0, .int .i64 0, .int .i64 0, .string PR, .string ⟨#[]⟩] 87) := (hb3.block _ (by first | omega | (simp <;> omega))).trans (by first | exact newAt _ _ _ (by simp) | exact h1w2 | (simp [World.setCell, Array.getElem?_modify, h1w2]; done)); have hww3 : Below w.heap.size w w3 := Below.trans (by first | exact ((Below.refl _ w).alloc (Nat.le_refl _) _).alloc (by simp) _ | exact hww2 | exact hww2.setCell (p := ⟨w.heap.size + 1, 3, none⟩) (by simp) _) (hb3.mono (by first | omega | (simp <;> omega))); have hzw3 : w.heap.size + 1 < w3.heap.size := (Array.getElem?_eq_some_iff.1 h1w3).1; obtain ⟨⟨p0w3, p1w3, p2w3, p3w3, p4w3⟩, f0w3, f1w3, f2w3, f3w3, f4w3⟩ := c5 h0w3; obtain ⟨⟨q0w3, q1w3, q2w3, q3w3, q4w3⟩, r0w3, r1w3, r2w3, r3w3, r4w3⟩ := c5 h1w3; rw [HX.out] at hrow; have n0 := hrow.cellAt 0 (by decide); have n1 := hrow.cellAt 1 (by decide); have n2 := hrow.cellAt 2 (by decide); simp only [List.map_cons, List.map_nil, List.getElem?_cons_zero, List.getElem?_cons_succ] at n0 n1 n2)
              | (go_at_call 102; first | (with_reducible refine (number3 x0 (by assumption) _).mono ?_; rw [HN0.out]; rintro e w' ⟨rfl, rfl⟩) | (with_reducible refine (number3 x1 (by assumption) _).mono ?_; rw [HN1.out]; rintro e w' ⟨rfl, rfl⟩) | (with_reducible refine (number3 x2 (by assumption) _).mono ?_; rw [HN2.out]; rintro e w' ⟨rfl, rfl⟩)))
            have hv0 := (set3_other (V := w3) (b := w.heap.size + 1) (k := w.heap.size) (by omega) (.int .i64 (-1)) (.int .i64 y1) (.int .i64 y2)).trans h0w3
            have hG := c5 (set5 hv0 (.int .i64 0) (.int .i64 0) (.int .i64 0) (.string ⟨#[]⟩) (.string ⟨#[]⟩))
            have hbl := set5_below (set3_below (b := w.heap.size + 1) hww3 (by omega) (.int .i64 (-1)) (.int .i64 y1) (.int .i64 y2)) (Nat.le_refl _) (.int .i64 0) (.int .i64 0) (.int .i64 0) (.string ⟨#[]⟩) (.string ⟨#[]⟩)
            refine bodyPost_ret (v := verV errV) (by simp [verV, errV, results, Tryz.f71, go_sem, hG.1.1, hG.1.2.1, hG.1.2.2.1, hG.1.2.2.2.1, hG.1.2.2.2.2]) rfl ⟨rfl, hbl⟩
          | true =>
          cases hk1' : numOk x1 with
          | false =>
            have HN0 := Lib.hid (show numR x0 = numV x0 by unfold numR; rw [hk0]; rfl)
            have hg0 : ¬ numV x0 < 0 := by have := numV_nonneg x0; omega
            have HN1 := Lib.hid (show numR x1 = -1 by unfold numR; rw [hk1']; rfl)
            obtain ⟨y2, HN2⟩ : ∃ y, Hid (numR x2 = y) := ⟨_, Lib.hid rfl⟩
            have e : parseB s = errV := errOf (by rw [hx]; simp [hk0, hk1'])
            rw [e]
            clear e errOf hk0 hk1'
            go_enter Tryz.func71, Tryz.ntmps71
            go_wp2_with (first
              | (exfalso; rename_i hu _; simp [undef] at hu; done)
              | (go_at_call 72; first | (rw [HTE.out]; refine (find43 T hT1 _).mono ?_; rw [HK1.out]; rintro e w' ⟨rfl, rfl⟩) | (rw [HR1.out]; refine (find45 R1 hR1 _).mono ?_; rw [HK2.out]; rintro e w' ⟨rfl, rfl⟩))
              | (go_at_call 101; rw [HPR.out]; refine (identifiers3 PR true hPR _).mono ?_; rw [HBP.out]; rintro e w2 ⟨rfl, hb2⟩; have h0w2 : w2.heap[w.heap.size]? = some (.cells #[.int .i64 0, .int .i64 0, .int .i64 0, .string ⟨#[]⟩, .string ⟨#[]⟩] 87) := (hb2.block _ (by first | omega | (simp <;> omega))).trans (by first | exact (Below.heap_alloc _ _ _ (by simp)).trans (newAt _ _ _ rfl)); have h1w2 : w2.heap[(w.heap.size + 1)]? = some (.cells #[.int .i64 0, .int .i64 0, .int .i64 0, .string PR, .string ⟨#[]⟩] 87) := (hb2.block _ (by first | omega | (simp <;> omega))).trans (by first | exact newAt _ _ _ (by simp)); have hww2 : Below w.heap.size w w2 := Below.trans (by first | exact ((Below.refl _ w).alloc (Nat.le_refl _) _).alloc (by simp) _) (hb2.mono (by first | omega | (simp <;> omega))); have hzw2 : w.heap.size + 1 < w2.heap.size := (Array.getElem?_eq_some_iff.1 h1w2).1; obtain ⟨⟨p0w2, p1w2, p2w2, p3w2, p4w2⟩, f0w2, f1w2, f2w2, f3w2, f4w2⟩ := c5 h0w2; obtain ⟨⟨q0w2, q1w2, q2w2, q3w2, q4w2⟩, r0w2, r1w2, r2w2, r3w2, r4w2⟩ := c5 h1w2)
              | (go_at_call 75; rw [HR2.out]; refine (split46 R2 hR2 _).mono ?_; rintro e w3 ⟨v, rfl, hrow, hb3⟩; rw [HLN.out] at hrow; obtain ⟨g, cap, hv⟩ := ownsRow_succ hrow; subst hv; have h0w3 : w3.heap[w.heap.size]? = some (.cells #[.int .i64 0, .int .i64 0, .int .i64 0, .string ⟨#[]⟩, .string ⟨#[]⟩] 87) := (hb3.block _ (by first | omega | (simp <;> omega))).trans (by first | exact (Below.heap_alloc _ _ _ (by simp)).trans (newAt _ _ _ rfl) | exact h0w2 | (simp [World.setCell, Array.getElem?_modify, h0w2]; done)); have h1w3 : w3.heap[(w.heap.size + 1)]? = some (.cells #[.int .i64 0, .int .i64 0, .int .i64 0, .string PR, .string ⟨#[]⟩] 87) := (hb3.block _ (by first | omega | (simp <;> omega))).trans (by first | exact newAt _ _ _ (by simp) | exact h1w2 | (simp [World.setCell, Array.getElem?_modify, h1w2]; done)); have hww3 : Below w.heap.size w w3 := Below.trans (by first | exact ((Below.refl _ w).alloc (Nat.le_refl _) _).alloc (by simp) _ | exact hww2 | exact hww2.setCell (p := ⟨w.heap.size + 1, 3, none⟩) (by simp) _) (hb3.mono (by first | omega | (simp <;> omega))); have hzw3 : w.heap.size + 1 < w3.heap.size := (Array.getElem?_eq_some_iff.1 h1w3).1; obtain ⟨⟨p0w3, p1w3, p2w3, p3w3, p4w3⟩, f0w3, f1w3, f2w3, f3w3, f4w3⟩ := c5 h0w3; obtain ⟨⟨q0w3, q1w3, q2w3, q3w3, q4w3⟩, r0w3, r1w3, r2w3, r3w3, r4w3⟩ := c5 h1w3; rw [HX.out] at hrow; have n0 := hrow.cellAt 0 (by decide); have n1 := hrow.cellAt 1 (by decide); have n2 := hrow.cellAt 2 (by decide); simp only [List.map_cons, List.map_nil, List.getElem?_cons_zero, List.getElem?_cons_succ] at n0 n1 n2)
              | (go_at_call 102; first | (with_reducible refine (number3 x0 (by assumption) _).mono ?_; rw [HN0.out]; rintro e w' ⟨rfl, rfl⟩) | (with_reducible refine (number3 x1 (by assumption) _).mono ?_; rw [HN1.out]; rintro e w' ⟨rfl, rfl⟩) | (with_reducible refine (number3 x2 (by assumption) _).mono ?_; rw [HN2.out]; rintro e w' ⟨rfl, rfl⟩)))
            have hv0 := (set3_other (V := w3) (b := w.heap.size + 1) (k := w.heap.size) (by omega) (.int .i64 (numV x0)) (.int .i64 (-1)) (.int .i64 y2)).trans h0w3
            have hG := c5 (set5 hv0 (.int .i64 0) (.int .i64 0) (.int .i64 0) (.string ⟨#[]⟩) (.string ⟨#[]⟩))
            have hbl := set5_below (set3_below (b := w.heap.size + 1) hww3 (by omega) (.int .i64 (numV x0)) (.int .i64 (-1)) (.int .i64 y2)) (Nat.le_refl _) (.int .i64 0) (.int .i64 0) (.int .i64 0) (.string ⟨#[]⟩) (.string ⟨#[]⟩)
            refine bodyPost_ret (v := verV errV) (by simp [verV, errV, results, Tryz.f71, go_sem, hG.1.1, hG.1.2.1, hG.1.2.2.1, hG.1.2.2.2.1, hG.1.2.2.2.2]) rfl ⟨rfl, hbl⟩
          | true =>
          cases hk2' : numOk x2 with
          | false =>
            have HN0 := Lib.hid (show numR x0 = numV x0 by unfold numR; rw [hk0]; rfl)
            have hg0 : ¬ numV x0 < 0 := by have := numV_nonneg x0; omega
            have HN1 := Lib.hid (show numR x1 = numV x1 by unfold numR; rw [hk1']; rfl)
            have hg1 : ¬ numV x1 < 0 := by have := numV_nonneg x1; omega
            have HN2 := Lib.hid (show numR x2 = -1 by unfold numR; rw [hk2']; rfl)
            have e : parseB s = errV := errOf (by rw [hx]; simp [hk0, hk1', hk2'])
            rw [e]
            clear e errOf hk0 hk1' hk2'
            go_enter Tryz.func71, Tryz.ntmps71
            go_wp2_with (first
              | (exfalso; rename_i hu _; simp [undef] at hu; done)
              | (go_at_call 72; first | (rw [HTE.out]; refine (find43 T hT1 _).mono ?_; rw [HK1.out]; rintro e w' ⟨rfl, rfl⟩) | (rw [HR1.out]; refine (find45 R1 hR1 _).mono ?_; rw [HK2.out]; rintro e w' ⟨rfl, rfl⟩))
              | (go_at_call 101; rw [HPR.out]; refine (identifiers3 PR true hPR _).mono ?_; rw [HBP.out]; rintro e w2 ⟨rfl, hb2⟩; have h0w2 : w2.heap[w.heap.size]? = some (.cells #[.int .i64 0, .int .i64 0, .int .i64 0, .string ⟨#[]⟩, .string ⟨#[]⟩] 87) := (hb2.block _ (by first | omega | (simp <;> omega))).trans (by first | exact (Below.heap_alloc _ _ _ (by simp)).trans (newAt _ _ _ rfl)); have h1w2 : w2.heap[(w.heap.size + 1)]? = some (.cells #[.int .i64 0, .int .i64 0, .int .i64 0, .string PR, .string ⟨#[]⟩] 87) := (hb2.block _ (by first | omega | (simp <;> omega))).trans (by first | exact newAt _ _ _ (by simp)); have hww2 : Below w.heap.size w w2 := Below.trans (by first | exact ((Below.refl _ w).alloc (Nat.le_refl _) _).alloc (by simp) _) (hb2.mono (by first | omega | (simp <;> omega))); have hzw2 : w.heap.size + 1 < w2.heap.size := (Array.getElem?_eq_some_iff.1 h1w2).1; obtain ⟨⟨p0w2, p1w2, p2w2, p3w2, p4w2⟩, f0w2, f1w2, f2w2, f3w2, f4w2⟩ := c5 h0w2; obtain ⟨⟨q0w2, q1w2, q2w2, q3w2, q4w2⟩, r0w2, r1w2, r2w2, r3w2, r4w2⟩ := c5 h1w2)
              | (go_at_call 75; rw [HR2.out]; refine (split46 R2 hR2 _).mono ?_; rintro e w3 ⟨v, rfl, hrow, hb3⟩; rw [HLN.out] at hrow; obtain ⟨g, cap, hv⟩ := ownsRow_succ hrow; subst hv; have h0w3 : w3.heap[w.heap.size]? = some (.cells #[.int .i64 0, .int .i64 0, .int .i64 0, .string ⟨#[]⟩, .string ⟨#[]⟩] 87) := (hb3.block _ (by first | omega | (simp <;> omega))).trans (by first | exact (Below.heap_alloc _ _ _ (by simp)).trans (newAt _ _ _ rfl) | exact h0w2 | (simp [World.setCell, Array.getElem?_modify, h0w2]; done)); have h1w3 : w3.heap[(w.heap.size + 1)]? = some (.cells #[.int .i64 0, .int .i64 0, .int .i64 0, .string PR, .string ⟨#[]⟩] 87) := (hb3.block _ (by first | omega | (simp <;> omega))).trans (by first | exact newAt _ _ _ (by simp) | exact h1w2 | (simp [World.setCell, Array.getElem?_modify, h1w2]; done)); have hww3 : Below w.heap.size w w3 := Below.trans (by first | exact ((Below.refl _ w).alloc (Nat.le_refl _) _).alloc (by simp) _ | exact hww2 | exact hww2.setCell (p := ⟨w.heap.size + 1, 3, none⟩) (by simp) _) (hb3.mono (by first | omega | (simp <;> omega))); have hzw3 : w.heap.size + 1 < w3.heap.size := (Array.getElem?_eq_some_iff.1 h1w3).1; obtain ⟨⟨p0w3, p1w3, p2w3, p3w3, p4w3⟩, f0w3, f1w3, f2w3, f3w3, f4w3⟩ := c5 h0w3; obtain ⟨⟨q0w3, q1w3, q2w3, q3w3, q4w3⟩, r0w3, r1w3, r2w3, r3w3, r4w3⟩ := c5 h1w3; rw [HX.out] at hrow; have n0 := hrow.cellAt 0 (by decide); have n1 := hrow.cellAt 1 (by decide); have n2 := hrow.cellAt 2 (by decide); simp only [List.map_cons, List.map_nil, List.getElem?_cons_zero, List.getElem?_cons_succ] at n0 n1 n2)
              | (go_at_call 102; first | (with_reducible refine (number3 x0 (by assumption) _).mono ?_; rw [HN0.out]; rintro e w' ⟨rfl, rfl⟩) | (with_reducible refine (number3 x1 (by assumption) _).mono ?_; rw [HN1.out]; rintro e w' ⟨rfl, rfl⟩) | (with_reducible refine (number3 x2 (by assumption) _).mono ?_; rw [HN2.out]; rintro e w' ⟨rfl, rfl⟩)))
            have hv0 := (set3_other (V := w3) (b := w.heap.size + 1) (k := w.heap.size) (by omega) (.int .i64 (numV x0)) (.int .i64 (numV x1)) (.int .i64 (-1))).trans h0w3
            have hG := c5 (set5 hv0 (.int .i64 0) (.int .i64 0) (.int .i64 0) (.string ⟨#[]⟩) (.string ⟨#[]⟩))
            have hbl := set5_below (set3_below (b := w.heap.size + 1) hww3 (by omega) (.int .i64 (numV x0)) (.int .i64 (numV x1)) (.int .i64 (-1))) (Nat.le_refl _) (.int .i64 0) (.int .i64 0) (.int .i64 0) (.string ⟨#[]⟩) (.string ⟨#[]⟩)
            refine bodyPost_ret (v := verV errV) (by simp [verV, errV, results, Tryz.f71, go_sem, hG.1.1, hG.1.2.1, hG.1.2.2.1, hG.1.2.2.2.1, hG.1.2.2.2.2]) rfl ⟨rfl, hbl⟩
          | true =>
            have HN0 := Lib.hid (show numR x0 = numV x0 by unfold numR; rw [hk0]; rfl)
            have hg0 : ¬ numV x0 < 0 := by have := numV_nonneg x0; omega
            have HN1 := Lib.hid (show numR x1 = numV x1 by unfold numR; rw [hk1']; rfl)
            have hg1 : ¬ numV x1 < 0 := by have := numV_nonneg x1; omega
            have HN2 := Lib.hid (show numR x2 = numV x2 by unfold numR; rw [hk2']; rfl)
            have hg2 : ¬ numV x2 < 0 := by have := numV_nonneg x2; omega
            have ho : o0 = true := by
              rw [← ho0, beq_iff_eq]
              have := spl_count 46 R2.data.toList
              have hn' : (spl 46 R2.data.toList).length = 3 := by unfold splB at hl; rw [List.length_map] at hl; exact hl
              omega
            have e : parseB s = (numV x0, numV x1, numV x2, PR, ⟨#[]⟩, 0) := okOf hx (by rw [hx, ho]; simp [hk0, hk1', hk2'])
            rw [e]
            clear e errOf okOf ho ho0
            go_enter Tryz.func71, Tryz.ntmps71
            go_wp2_with (first
              | (exfalso; rename_i hu _; simp [undef] at hu; done)
              | (go_at_call 72; first | (rw [HTE.out]; refine (find43 T hT1 _).mono ?_; rw [HK1.out]; rintro e w' ⟨rfl, rfl⟩) | (rw [HR1.out]; refine (find45 R1 hR1 _).mono ?_; rw [HK2.out]; rintro e w' ⟨rfl, rfl⟩))
              | (go_at_call 101; rw [HPR.out]; refine (identifiers3 PR true hPR _).mono ?_; rw [HBP.out]; rintro e w2 ⟨rfl, hb2⟩; have h0w2 : w2.heap[w.heap.size]? = some (.cells #[.int .i64 0, .int .i64 0, .int .i64 0, .string ⟨#[]⟩, .string ⟨#[]⟩] 87) := (hb2.block _ (by first | omega | (simp <;> omega))).trans (by first | exact (Below.heap_alloc _ _ _ (by simp)).trans (newAt _ _ _ rfl)); have h1w2 : w2.heap[(w.heap.size + 1)]? = some (.cells #[.int .i64 0, .int .i64 0, .int .i64 0, .string PR, .string ⟨#[]⟩] 87) := (hb2.block _ (by first | omega | (simp <;> omega))).trans (by first | exact newAt _ _ _ (by simp)); have hww2 : Below w.heap.size w w2 := Below.trans (by first | exact ((Below.refl _ w).alloc (Nat.le_refl _) _).alloc (by simp) _) (hb2.mono (by first | omega | (simp <;> omega))); have hzw2 : w.heap.size + 1 < w2.heap.size := (Array.getElem?_eq_some_iff.1 h1w2).1; obtain ⟨⟨p0w2, p1w2, p2w2, p3w2, p4w2⟩, f0w2, f1w2, f2w2, f3w2, f4w2⟩ := c5 h0w2; obtain ⟨⟨q0w2, q1w2, q2w2, q3w2, q4w2⟩, r0w2, r1w2, r2w2, r3w2, r4w2⟩ := c5 h1w2)
              | (go_at_call 75; rw [HR2.out]; refine (split46 R2 hR2 _).mono ?_; rintro e w3 ⟨v, rfl, hrow, hb3⟩; rw [HLN.out] at hrow; obtain ⟨g, cap, hv⟩ := ownsRow_succ hrow; subst hv; have h0w3 : w3.heap[w.heap.size]? = some (.cells #[.int .i64 0, .int .i64 0, .int .i64 0, .string ⟨#[]⟩, .string ⟨#[]⟩] 87) := (hb3.block _ (by first | omega | (simp <;> omega))).trans (by first | exact (Below.heap_alloc _ _ _ (by simp)).trans (newAt _ _ _ rfl) | exact h0w2 | (simp [World.setCell, Array.getElem?_modify, h0w2]; done)); have h1w3 : w3.heap[(w.heap.size + 1)]? = some (.cells #[.int .i64 0, .int .i64 0, .int .i64 0, .string PR, .string ⟨#[]⟩] 87) := (hb3.block _ (by first | omega | (simp <;> omega))).trans (by first | exact newAt _ _ _ (by simp) | exact h1w2 | (simp [World.setCell, Array.getElem?_modify, h1w2]; done)); have hww3 : Below w.heap.size w w3 := Below.trans (by first | exact ((Below.refl _ w).alloc (Nat.le_refl _) _).alloc (by simp) _ | exact hww2 | exact hww2.setCell (p := ⟨w.heap.size + 1, 3, none⟩) (by simp) _) (hb3.mono (by first | omega | (simp <;> omega))); have hzw3 : w.heap.size + 1 < w3.heap.size := (Array.getElem?_eq_some_iff.1 h1w3).1; obtain ⟨⟨p0w3, p1w3, p2w3, p3w3, p4w3⟩, f0w3, f1w3, f2w3, f3w3, f4w3⟩ := c5 h0w3; obtain ⟨⟨q0w3, q1w3, q2w3, q3w3, q4w3⟩, r0w3, r1w3, r2w3, r3w3, r4w3⟩ := c5 h1w3; rw [HX.out] at hrow; have n0 := hrow.cellAt 0 (by decide); have n1 := hrow.cellAt 1 (by decide); have n2 := hrow.cellAt 2 (by decide); simp only [List.map_cons, List.map_nil, List.getElem?_cons_zero, List.getElem?_cons_succ] at n0 n1 n2)
              | (go_at_call 102; first | (with_reducible refine (number3 x0 (by assumption) _).mono ?_; rw [HN0.out]; rintro e w' ⟨rfl, rfl⟩) | (with_reducible refine (number3 x1 (by assumption) _).mono ?_; rw [HN1.out]; rintro e w' ⟨rfl, rfl⟩) | (with_reducible refine (number3 x2 (by assumption) _).mono ?_; rw [HN2.out]; rintro e w' ⟨rfl, rfl⟩)))
            have hv0 := (set3_other (V := w3) (b := w.heap.size + 1) (k := w.heap.size) (by omega) (.int .i64 (numV x0)) (.int .i64 (numV x1)) (.int .i64 (numV x2))).trans h0w3
            have hG := c5 (set5 hv0 (.int .i64 (numV x0)) (.int .i64 (numV x1)) (.int .i64 (numV x2)) (.string PR) (.string ⟨#[]⟩))
            have hbl := set5_below (set3_below (b := w.heap.size + 1) hww3 (by omega) (.int .i64 (numV x0)) (.int .i64 (numV x1)) (.int .i64 (numV x2))) (Nat.le_refl _) (.int .i64 (numV x0)) (.int .i64 (numV x1)) (.int .i64 (numV x2)) (.string PR) (.string ⟨#[]⟩)
            refine bodyPost_ret (v := verV (numV x0, numV x1, numV x2, PR, ⟨#[]⟩, 0)) (by simp [verV, errV, results, Tryz.f71, go_sem, hG.1.1, hG.1.2.1, hG.1.2.2.1, hG.1.2.2.2.1, hG.1.2.2.2.2]) rfl ⟨rfl, hbl⟩
        · obtain ⟨n, hn⟩ : ∃ n, (splB 46 R2).length = n + 1 := ⟨(splB 46 R2).length - 1, by have := spl_pos 46 R2; omega⟩
          have HLN := Lib.hid hn
          have hq1 : (((n + 1 : Nat) : Int) != 3) = true := by rw [bne_iff_ne]; omega
          have hq2 : ((n : Int) + 1 != 3) = true := by rw [bne_iff_ne]; omega
          have ho : o0 = false := by
            rw [← ho0, beq_eq_false_iff_ne]
            have := spl_count 46 R2.data.toList
            have hn' : (spl 46 R2.data.toList).length = n + 1 := by unfold splB at hn; rw [List.length_map] at hn; exact hn
            omega
          have e : parseB s = errV := errOf (by rw [ho]; rfl)
          rw [e]
          clear e ho ho0 hn hl errOf
          go_enter Tryz.func71, Tryz.ntmps71
          go_wp2_with (first
            | (exfalso; rename_i hu _; simp [undef] at hu; done)
            | (go_at_call 72; first | (rw [HTE.out]; refine (find43 T hT1 _).mono ?_; rw [HK1.out]; rintro e w' ⟨rfl, rfl⟩) | (rw [HR1.out]; refine (find45 R1 hR1 _).mono ?_; rw [HK2.out]; rintro e w' ⟨rfl, rfl⟩))
            | (go_at_call 101; rw [HPR.out]; refine (identifiers3 PR true hPR _).mono ?_; rw [HBP.out]; rintro e w2 ⟨rfl, hb2⟩; have h0w2 : w2.heap[w.heap.size]? = some (.cells #[.int .i64 0, .int .i64 0, .int .i64 0, .string ⟨#[]⟩, .string ⟨#[]⟩] 87) := (hb2.block _ (by first | omega | (simp <;> omega))).trans (by first | exact (Below.heap_alloc _ _ _ (by simp)).trans (newAt _ _ _ rfl)); have h1w2 : w2.heap[(w.heap.size + 1)]? = some (.cells #[.int .i64 0, .int .i64 0, .int .i64 0, .string PR, .string ⟨#[]⟩] 87) := (hb2.block _ (by first | omega | (simp <;> omega))).trans (by first | exact newAt _ _ _ (by simp)); have hww2 : Below w.heap.size w w2 := Below.trans (by first | exact ((Below.refl _ w).alloc (Nat.le_refl _) _).alloc (by simp) _) (hb2.mono (by first | omega | (simp <;> omega))); have hzw2 : w.heap.size + 1 < w2.heap.size := (Array.getElem?_eq_some_iff.1 h1w2).1; obtain ⟨⟨p0w2, p1w2, p2w2, p3w2, p4w2⟩, f0w2, f1w2, f2w2, f3w2, f4w2⟩ := c5 h0w2; obtain ⟨⟨q0w2, q1w2, q2w2, q3w2, q4w2⟩, r0w2, r1w2, r2w2, r3w2, r4w2⟩ := c5 h1w2)
            | (go_at_call 75; rw [HR2.out]; refine (split46 R2 hR2 _).mono ?_; rintro e w3 ⟨v, rfl, hrow, hb3⟩; rw [HLN.out] at hrow; obtain ⟨g, cap, hv⟩ := ownsRow_succ hrow; subst hv; have h0w3 : w3.heap[w.heap.size]? = some (.cells #[.int .i64 0, .int .i64 0, .int .i64 0, .string ⟨#[]⟩, .string ⟨#[]⟩] 87) := (hb3.block _ (by first | omega | (simp <;> omega))).trans (by first | exact (Below.heap_alloc _ _ _ (by simp)).trans (newAt _ _ _ rfl) | exact h0w2 | (simp [World.setCell, Array.getElem?_modify, h0w2]; done)); have h1w3 : w3.heap[(w.heap.size + 1)]? = some (.cells #[.int .i64 0, .int .i64 0, .int .i64 0, .string PR, .string ⟨#[]⟩] 87) := (hb3.block _ (by first | omega | (simp <;> omega))).trans (by first | exact newAt _ _ _ (by simp) | exact h1w2 | (simp [World.setCell, Array.getElem?_modify, h1w2]; done)); have hww3 : Below w.heap.size w w3 := Below.trans (by first | exact ((Below.refl _ w).alloc (Nat.le_refl _) _).alloc (by simp) _ | exact hww2 | exact hww2.setCell (p := ⟨w.heap.size + 1, 3, none⟩) (by simp) _) (hb3.mono (by first | omega | (simp <;> omega))); have hzw3 : w.heap.size + 1 < w3.heap.size := (Array.getElem?_eq_some_iff.1 h1w3).1; obtain ⟨⟨p0w3, p1w3, p2w3, p3w3, p4w3⟩, f0w3, f1w3, f2w3, f3w3, f4w3⟩ := c5 h0w3; obtain ⟨⟨q0w3, q1w3, q2w3, q3w3, q4w3⟩, r0w3, r1w3, r2w3, r3w3, r4w3⟩ := c5 h1w3))
          have hG := c5 (set5 h0w3 (.int .i64 0) (.int .i64 0) (.int .i64 0) (.string ⟨#[]⟩) (.string ⟨#[]⟩))
          have hbl := set5_below hww3 (Nat.le_refl _) (.int .i64 0) (.int .i64 0) (.int .i64 0) (.string ⟨#[]⟩) (.string ⟨#[]⟩)
          refine bodyPost_ret (v := verV errV) (by simp [verV, errV, results, Tryz.f71, go_sem, hG.1.1, hG.1.2.1, hG.1.2.2.1, hG.1.2.2.2.1, hG.1.2.2.2.2]) rfl ⟨rfl, hbl⟩
    · have hkp : ¬ ((k2 : Int) < R1.size) := by omega
      simp only [cp, if_false, decide_false, all_gpf, Bool.and_true] at PE
      have errOf : (o0 && (splB 46 R2).all numOk) = false → parseB s = errV := fun h => by rw [PE, h]; rfl
      have okOf : ∀ {x0 x1 x2}, splB 46 R2 = [x0, x1, x2] → (o0 && (splB 46 R2).all numOk) = true → parseB s = (numV x0, numV x1, numV x2, ⟨#[]⟩, ⟨#[]⟩, 0) := fun hx h => by rw [PE, h, hx]; rfl
      clear PE
      by_cases hl : (splB 46 R2).length = 3
      · obtain ⟨x0, x1, x2, hx⟩ : ∃ x0 x1 x2, splB 46 R2 = [x0, x1, x2] := by
          match h : splB 46 R2, hl with
          | [a, b, c], _ => exact ⟨a, b, c, rfl⟩
        have hx0 : x0.size ≤ 1048576 := OrderPre.splB_size 46 R2 hR2 x0 (by rw [hx]; simp)
        have hx1 : x1.size ≤ 1048576 := OrderPre.splB_size 46 R2 hR2 x1 (by rw [hx]; simp)
        have hx2 : x2.size ≤ 1048576 := OrderPre.splB_size 46 R2 hR2 x2 (by rw [hx]; simp)
        have HLN := Lib.hid (show (splB 46 R2).length = 2 + 1 from hl)
        have HX := Lib.hid (show (splB 46 R2).map Value.string = [.string x0, .string x1, .string x2] by rw [hx]; rfl)
        cases hk0 : numOk x0 with
        | false =>
          have HN0 := Lib.hid (show numR x0 = -1 by unfold numR; rw [hk0]; rfl)
          obtain ⟨y1, HN1⟩ : ∃ y, Hid (numR x1 = y) := ⟨_, Lib.hid rfl⟩
          obtain ⟨y2, HN2⟩ : ∃ y, Hid (numR x2 = y) := ⟨_, Lib.hid rfl⟩
          have e : parseB s = errV := errOf (by rw [hx]; simp [hk0])
          rw [e]
          clear e errOf hk0
          go_enter Tryz.func71, Tryz.ntmps71
          go_wp2_with (first
            | (exfalso; rename_i hu _; simp [undef] at hu; done)
            | (go_at_call 72; first | (rw [HTE.out]; refine (find43 T hT1 _).mono ?_; rw [HK1.out]; rintro e w' ⟨rfl, rfl⟩) | (rw [HR1.out]; refine (find45 R1 hR1 _).mono ?_; rw [HK2.out]; rintro e w' ⟨rfl, rfl⟩))
            | (go_at_call 75; rw [HR2.out]; refine (split46 R2 hR2 _).mono ?_; rintro e w3 ⟨v, rfl, hrow, hb3⟩; rw [HLN.out] at hrow; obtain ⟨g, cap, hv⟩ := ownsRow_succ hrow; subst hv; have h0w3 : w3.heap[w.heap.size]? = some (.cells #[.int .i64 0, .int .i64 0, .int .i64 0, .string ⟨#[]⟩, .string ⟨#[]⟩] 87) := (hb3.block _ (by first | omega | (simp <;> omega))).trans (by first | exact (Below.heap_alloc _ _ _ (by simp)).trans (newAt _ _ _ rfl)); have h1w3 : w3.heap[(w.heap.size + 1)]? = some (.cells #[.int .i64 0, .int .i64 0, .int .i64 0, .string ⟨#[]⟩, .string ⟨#[]⟩] 87) := (hb3.block _ (by first | omega | (simp <;> omega))).trans (by first | exact newAt _ _ _ (by simp)); have hww3 : Below w.heap.size w w3 := Below.trans (by first | exact ((Below.refl _ w).alloc (Nat.le_refl _) _).alloc (by simp) _) (hb3.mono (by first | omega | (simp <;> omega))); have hzw3 : w.heap.size + 1 < w3.heap.size := (Array.getElem?_eq_some_iff.1 h1w3).1; obtain ⟨⟨p0w3, p1w3, p2w3, p3w3, p4w3⟩, f0w3, f1w3, f2w3, f3w3, f4w3⟩ := c5 h0w3; obtain ⟨⟨q0w3, q1w3, q2w3, q3w3, q4w3⟩, r0w3, r1w3, r2w3, r3w3, r4w3⟩ := c5 h1w3; rw [HX.out] at hrow; have n0 := hrow.cellAt 0 (by decide); have n1 := hrow.cellAt 1 (by decide); have n2 := hrow.cellAt 2 (by decide); simp only [List.map_cons, List.map_nil, List.getElem?_cons_zero, List.getElem?_cons_succ] at n0 n1 n2)
            | (go_at_call 102; first | (with_reducible refine (number3 x0 (by assumption) _).mono ?_; rw [HN0.out]; rintro e w' ⟨rfl, rfl⟩) | (with_reducible refine (number3 x1 (by assumption) _).mono ?_; rw [HN1.out]; rintro e w' ⟨rfl, rfl⟩) | (with_reducible refine (number3 x2 (by assumption) _).mono ?_; rw [HN2.out]; rintro e w' ⟨rfl, rfl⟩)))
          have hv0 := (set3_other (V := w3) (b := w.heap.size + 1) (k := w.heap.size) (by omega) (.int .i64 (-1)) (.int .i64 y1) (.int .i64 y2)).trans h0w3
          have hG := c5 (set5 hv0 (.int .i64 0) (.int .i64 0) (.int .i64 0) (.string ⟨#[]⟩) (.string ⟨#[]⟩))
          have hbl := set5_below (set3_below (b := w.heap.size + 1) hww3 (by omega) (.int .i64 (-1)) (.int .i64 y1) (.int .i64 y2)) (Nat.le_refl _) (.int .i64 0) (.int .i64 0) (.int .i64 0) (.string ⟨#[]⟩) (.string ⟨#[]⟩)
          refine bodyPost_ret (v := verV errV) (by simp [verV, errV, results, Tryz.f71, go_sem, hG.1.1, hG.1.2.1, hG.1.2.2.1, hG.1.2.2.2.1, hG.1.2.2.2.2]) rfl ⟨rfl, hbl⟩
        | true =>
        cases hk1' : numOk x1 with
        | false =>
          have HN0 := Lib.hid (show numR x0 = numV x0 by unfold numR; rw [hk0]; rfl)
          have hg0 : ¬ numV x0 < 0 := by have := numV_nonneg x0; omega
          have HN1 := Lib.hid (show numR x1 = -1 by unfold numR; rw [hk1']; rfl)
          obtain ⟨y2, HN2⟩ : ∃ y, Hid (numR x2 = y) := ⟨_, Lib.hid rfl⟩
          have e : parseB s = errV := errOf (by rw [hx]; simp [hk0, hk1'])
          rw [e]
          clear e errOf hk0 hk1'
          go_enter Tryz.func71, Tryz.ntmps71
          go_wp2_with (first
            | (exfalso; rename_i hu _; simp [undef] at hu; done)
            | (go_at_call 72; first | (rw [HTE.out]; refine (find43 T hT1 _).mono ?_; rw [HK1.out]; rintro e w' ⟨rfl, rfl⟩) | (rw [HR1.out]; refine (find45 R1 hR1 _).mono ?_; rw [HK2.out]; rintro e w' ⟨rfl, rfl⟩))
            | (go_at_call 75; rw [HR2.out]; refine (split46 R2 hR2 _).mono ?_; rintro e w3 ⟨v, rfl, hrow, hb3⟩; rw [HLN.out] at hrow; obtain ⟨g, cap, hv⟩ := ownsRow_succ hrow; subst hv; have h0w3 : w3.heap[w.heap.size]? = some (.cells #[.int .i64 0, .int .i64 0, .int .i64 0, .string ⟨#[]⟩, .string ⟨#[]⟩] 87) := (hb3.block _ (by first | omega | (simp <;> omega))).trans (by first | exact (Below.heap_alloc _ _ _ (by simp)).trans (newAt _ _ _ rfl)); have h1w3 : w3.heap[(w.heap.size + 1)]? = some (.cells #[.int .i64 0, .int .i64 0, .int .i64 0, .string ⟨#[]⟩, .string ⟨#[]⟩] 87) := (hb3.block _ (by first | omega | (simp <;> omega))).trans (by first | exact newAt _ _ _ (by simp)); have hww3 : Below w.heap.size w w3 := Below.trans (by first | exact ((Below.refl _ w).alloc (Nat.le_refl _) _).alloc (by simp) _) (hb3.mono (by first | omega | (simp <;> omega))); have hzw3 : w.heap.size + 1 < w3.heap.size := (Array.getElem?_eq_some_iff.1 h1w3).1; obtain ⟨⟨p0w3, p1w3, p2w3, p3w3, p4w3⟩, f0w3, f1w3, f2w3, f3w3, f4w3⟩ := c5 h0w3; obtain ⟨⟨q0w3, q1w3, q2w3, q3w3, q4w3⟩, r0w3, r1w3, r2w3, r3w3, r4w3⟩ := c5 h1w3; rw [HX.out] at hrow; have n0 := hrow.cellAt 0 (by decide); have n1 := hrow.cellAt 1 (by decide); have n2 := hrow.cellAt 2 (by decide); simp only [List.map_cons, List.map_nil, List.getElem?_cons_zero, List.getElem?_cons_succ] at n0 n1 n2)
            | (go_at_call 102; first | (with_reducible refine (number3 x0 (by assumption) _).mono ?_; rw [HN0.out]; rintro e w' ⟨rfl, rfl⟩) | (with_reducible refine (number3 x1 (by assumption) _).mono ?_; rw [HN1.out]; rintro e w' ⟨rfl, rfl⟩) | (with_reducible refine (number3 x2 (by assumption) _).mono ?_; rw [HN2.out]; rintro e w' ⟨rfl, rfl⟩)))
          have hv0 := (set3_other (V := w3) (b := w.heap.size + 1) (k := w.heap.size) (by omega) (.int .i64 (numV x0)) (.int .i64 (-1)) (.int .i64 y2)).trans h0w3
          have hG := c5 (set5 hv0 (.int .i64 0) (.int .i64 0) (.int .i64 0) (.string ⟨#[]⟩) (.string ⟨#[]⟩))
          have hbl := set5_below (set3_below (b := w.heap.size + 1) hww3 (by omega) (.int .i64 (numV x0)) (.int .i64 (-1)) (.int .i64 y2)) (Nat.le_refl _) (.int .i64 0) (.int .i64 0) (.int .i64 0) (.string ⟨#[]⟩) (.string ⟨#[]⟩)
          refine bodyPost_ret (v := verV errV) (by simp [verV, errV, results, Tryz.f71, go_sem, hG.1.1, hG.1.2.1, hG.1.2.2.1, hG.1.2.2.2.1, hG.1.2.2.2.2]) rfl ⟨rfl, hbl⟩
        | true =>
        cases hk2' : numOk x2 with
        | false =>
          have HN0 := Lib.hid (show numR x0 = numV x0 by unfold numR; rw [hk0]; rfl)
          have hg0 : ¬ numV x0 < 0 := by have := numV_nonneg x0; omega
          have HN1 := Lib.hid (show numR x1 = numV x1 by unfold numR; rw [hk1']; rfl)
          have hg1 : ¬ numV x1 < 0 := by have := numV_nonneg x1; omega
          have HN2 := Lib.hid (show numR x2 = -1 by unfold numR; rw [hk2']; rfl)
          have e : parseB s = errV := errOf (by rw [hx]; simp [hk0, hk1', hk2'])
          rw [e]
          clear e errOf hk0 hk1' hk2'
          go_enter Tryz.func71, Tryz.ntmps71
          go_wp2_with (first
            | (exfalso; rename_i hu _; simp [undef] at hu; done)
            | (go_at_call 72; first | (rw [HTE.out]; refine (find43 T hT1 _).mono ?_; rw [HK1.out]; rintro e w' ⟨rfl, rfl⟩) | (rw [HR1.out]; refine (find45 R1 hR1 _).mono ?_; rw [HK2.out]; rintro e w' ⟨rfl, rfl⟩))
            | (go_at_call 75; rw [HR2.out]; refine (split46 R2 hR2 _).mono ?_; rintro e w3 ⟨v, rfl, hrow, hb3⟩; rw [HLN.out] at hrow; obtain ⟨g, cap, hv⟩ := ownsRow_succ hrow; subst hv; have h0w3 : w3.heap[w.heap.size]? = some (.cells #[.int .i64 0, .int .i64 0, .int .i64 0, .string ⟨#[]⟩, .string ⟨#[]⟩] 87) := (hb3.block _ (by first | omega | (simp <;> omega))).trans (by first | exact (Below.heap_alloc _ _ _ (by simp)).trans (newAt _ _ _ rfl)); have h1w3 : w3.heap[(w.heap.size + 1)]? = some (.cells #[.int .i64 0, .int .i64 0, .int .i64 0, .string ⟨#[]⟩, .string ⟨#[]⟩] 87) := (hb3.block _ (by first | omega | (simp <;> omega))).trans (by first | exact newAt _ _ _ (by simp)); have hww3 : Below w.heap.size w w3 := Below.trans (by first | exact ((Below.refl _ w).alloc (Nat.le_refl _) _).alloc (by simp) _) (hb3.mono (by first | omega | (simp <;> omega))); have hzw3 : w.heap.size + 1 < w3.heap.size := (Array.getElem?_eq_some_iff.1 h1w3).1; obtain ⟨⟨p0w3, p1w3, p2w3, p3w3, p4w3⟩, f0w3, f1w3, f2w3, f3w3, f4w3⟩ := c5 h0w3; obtain ⟨⟨q0w3, q1w3, q2w3, q3w3, q4w3⟩, r0w3, r1w3, r2w3, r3w3, r4w3⟩ := c5 h1w3; rw [HX.out] at hrow; have n0 := hrow.cellAt 0 (by decide); have n1 := hrow.cellAt 1 (by decide); have n2 := hrow.cellAt 2 (by decide); simp only [List.map_cons, List.map_nil, List.getElem?_cons_zero, List.getElem?_cons_succ] at n0 n1 n2)
            | (go_at_call 102; first | (with_reducible refine (number3 x0 (by assumption) _).mono ?_; rw [HN0.out]; rintro e w' ⟨rfl, rfl⟩) | (with_reducible refine (number3 x1 (by assumption) _).mono ?_; rw [HN1.out]; rintro e w' ⟨rfl, rfl⟩) | (with_reducible refine (number3 x2 (by assumption) _).mono ?_; rw [HN2.out]; rintro e w' ⟨rfl, rfl⟩)))
          have hv0 := (set3_other (V := w3) (b := w.heap.size + 1) (k := w.heap.size) (by omega) (.int .i64 (numV x0)) (.int .i64 (numV x1)) (.int .i64 (-1))).trans h0w3
          have hG := c5 (set5 hv0 (.int .i64 0) (.int .i64 0) (.int .i64 0) (.string ⟨#[]⟩) (.string ⟨#[]⟩))
          have hbl := set5_below (set3_below (b := w.heap.size + 1) hww3 (by omega) (.int .i64 (numV x0)) (.int .i64 (numV x1)) (.int .i64 (-1))) (Nat.le_refl _) (.int .i64 0) (.int .i64 0) (.int .i64 0) (.string ⟨#[]⟩) (.string ⟨#[]⟩)
          refine bodyPost_ret (v := verV errV) (by simp [verV, errV, results, Tryz.f71, go_sem, hG.1.1, hG.1.2.1, hG.1.2.2.1, hG.1.2.2.2.1, hG.1.2.2.2.2]) rfl ⟨rfl, hbl⟩
        | true =>
          have HN0 := Lib.hid (show numR x0 = numV x0 by unfold numR; rw [hk0]; rfl)
          have hg0 : ¬ numV x0 < 0 := by have := numV_nonneg x0; omega
          have HN1 := Lib.hid (show numR x1 = numV x1 by unfold numR; rw [hk1']; rfl)
          have hg1 : ¬ numV x1 < 0 := by have := numV_nonneg x1; omega
          have HN2 := Lib.hid (show numR x2 = numV x2 by unfold numR; rw [hk2']; rfl)
          have hg2 : ¬ numV x2 < 0 := by have := numV_nonneg x2; omega
          have ho : o0 = true := by
            rw [← ho0, beq_iff_eq]
            have := spl_count 46 R2.data.toList
            have hn' : (spl 46 R2.data.toList).length = 3 := by unfold splB at hl; rw [List.length_map] at hl; exact hl
            omega
          have e : parseB s = (numV x0, numV x1, numV x2, ⟨#[]⟩, ⟨#[]⟩, 0) := okOf hx (by rw [hx, ho]; simp [hk0, hk1', hk2'])
          rw [e]
          clear e errOf okOf ho ho0
          go_enter Tryz.func71, Tryz.ntmps71
          go_wp2_with (first
            | (exfalso; rename_i hu _; simp [undef] at hu; done)
            | (go_at_call 72; first | (rw [HTE.out]; refine (find43 T hT1 _).mono ?_; rw [HK1.out]; rintro e w' ⟨rfl, rfl⟩) | (rw [HR1.out]; refine (find45 R1 hR1 _).mono ?_; rw [HK2.out]; rintro e w' ⟨rfl, rfl⟩))
            | (go_at_call 75; rw [HR2.out]; refine (split46 R2 hR2 _).mono ?_; rintro e w3 ⟨v, rfl, hrow, hb3⟩; rw [HLN.out] at hrow; obtain ⟨g, cap, hv⟩ := ownsRow_succ hrow; subst hv; have h0w3 : w3.heap[w.heap.size]? = some (.cells #[.int .i64 0, .int .i64 0, .int .i64 0, .string ⟨#[]⟩, .string ⟨#[]⟩] 87) := (hb3.block _ (by first | omega | (simp <;> omega))).trans (by first | exact (Below.heap_alloc _ _ _ (by simp)).trans (newAt _ _ _ rfl)); have h1w3 : w3.heap[(w.heap.size + 1)]? = some (.cells #[.int .i64 0, .int .i64 0, .int .i64 0, .string ⟨#[]⟩, .string ⟨#[]⟩] 87) := (hb3.block _ (by first | omega | (simp <;> omega))).trans (by first | exact newAt _ _ _ (by simp)); have hww3 : Below w.heap.size w w3 := Below.trans (by first | exact ((Below.refl _ w).alloc (Nat.le_refl _) _).alloc (by simp) _) (hb3.mono (by first | omega | (simp <;> omega))); have hzw3 : w.heap.size + 1 < w3.heap.size := (Array.getElem?_eq_some_iff.1 h1w3).1; obtain ⟨⟨p0w3, p1w3, p2w3, p3w3, p4w3⟩, f0w3, f1w3, f2w3, f3w3, f4w3⟩ := c5 h0w3; obtain ⟨⟨q0w3, q1w3, q2w3, q3w3, q4w3⟩, r0w3, r1w3, r2w3, r3w3, r4w3⟩ := c5 h1w3; rw [HX.out] at hrow; have n0 := hrow.cellAt 0 (by decide); have n1 := hrow.cellAt 1 (by decide); have n2 := hrow.cellAt 2 (by decide); simp only [List.map_cons, List.map_nil, List.getElem?_cons_zero, List.getElem?_cons_succ] at n0 n1 n2)
            | (go_at_call 102; first | (with_reducible refine (number3 x0 (by assumption) _).mono ?_; rw [HN0.out]; rintro e w' ⟨rfl, rfl⟩) | (with_reducible refine (number3 x1 (by assumption) _).mono ?_; rw [HN1.out]; rintro e w' ⟨rfl, rfl⟩) | (with_reducible refine (number3 x2 (by assumption) _).mono ?_; rw [HN2.out]; rintro e w' ⟨rfl, rfl⟩)))
          have hv0 := (set3_other (V := w3) (b := w.heap.size + 1) (k := w.heap.size) (by omega) (.int .i64 (numV x0)) (.int .i64 (numV x1)) (.int .i64 (numV x2))).trans h0w3
          have hG := c5 (set5 hv0 (.int .i64 (numV x0)) (.int .i64 (numV x1)) (.int .i64 (numV x2)) (.string ⟨#[]⟩) (.string ⟨#[]⟩))
          have hbl := set5_below (set3_below (b := w.heap.size + 1) hww3 (by omega) (.int .i64 (numV x0)) (.int .i64 (numV x1)) (.int .i64 (numV x2))) (Nat.le_refl _) (.int .i64 (numV x0)) (.int .i64 (numV x1)) (.int .i64 (numV x2)) (.string ⟨#[]⟩) (.string ⟨#[]⟩)
          refine bodyPost_ret (v := verV (numV x0, numV x1, numV x2, ⟨#[]⟩, ⟨#[]⟩, 0)) (by simp [verV, errV, results, Tryz.f71, go_sem, hG.1.1, hG.1.2.1, hG.1.2.2.1, hG.1.2.2.2.1, hG.1.2.2.2.2]) rfl ⟨rfl, hbl⟩
      · obtain ⟨n, hn⟩ : ∃ n, (splB 46 R2).length = n + 1 := ⟨(splB 46 R2).length - 1, by have := spl_pos 46 R2; omega⟩
        have HLN := Lib.hid hn
        have hq1 : (((n + 1 : Nat) : Int) != 3) = true := by rw [bne_iff_ne]; omega
        have hq2 : ((n : Int) + 1 != 3) = true := by rw [bne_iff_ne]; omega
        have ho : o0 = false := by
          rw [← ho0, beq_eq_false_iff_ne]
          have := spl_count 46 R2.data.toList
          have hn' : (spl 46 R2.data.toList).length = n + 1 := by unfold splB at hn; rw [List.length_map] at hn; exact hn
          omega
        have e : parseB s = errV := errOf (by rw [ho]; rfl)
        rw [e]
        clear e ho ho0 hn hl errOf
        go_enter Tryz.func71, Tryz.ntmps71
        go_wp2_with (first
          | (exfalso; rename_i hu _; simp [undef] at hu; done)
          | (go_at_call 72; first | (rw [HTE.out]; refine (find43 T hT1 _).mono ?_; rw [HK1.out]; rintro e w' ⟨rfl, rfl⟩) | (rw [HR1.out]; refine (find45 R1 hR1 _).mono ?_; rw [HK2.out]; rintro e w' ⟨rfl, rfl⟩))
          | (go_at_call 75; rw [HR2.out]; refine (split46 R2 hR2 _).mono ?_; rintro e w3 ⟨v, rfl, hrow, hb3⟩; rw [HLN.out] at hrow; obtain ⟨g, cap, hv⟩ := ownsRow_succ hrow; subst hv; have h0w3 : w3.heap[w.heap.size]? = some (.cells #[.int .i64 0, .int .i64 0, .int .i64 0, .string ⟨#[]⟩, .string ⟨#[]⟩] 87) := (hb3.block _ (by first | omega | (simp <;> omega))).trans (by first | exact (Below.heap_alloc _ _ _ (by simp)).trans (newAt _ _ _ rfl)); have h1w3 : w3.heap[(w.heap.size + 1)]? = some (.cells #[.int .i64 0, .int .i64 0, .int .i64 0, .string ⟨#[]⟩, .string ⟨#[]⟩] 87) := (hb3.block _ (by first | omega | (simp <;> omega))).trans (by first | exact newAt _ _ _ (by simp)); have hww3 : Below w.heap.size w w3 := Below.trans (by first | exact ((Below.refl _ w).alloc (Nat.le_refl _) _).alloc (by simp) _) (hb3.mono (by first | omega | (simp <;> omega))); have hzw3 : w.heap.size + 1 < w3.heap.size := (Array.getElem?_eq_some_iff.1 h1w3).1; obtain ⟨⟨p0w3, p1w3, p2w3, p3w3, p4w3⟩, f0w3, f1w3, f2w3, f3w3, f4w3⟩ := c5 h0w3; obtain ⟨⟨q0w3, q1w3, q2w3, q3w3, q4w3⟩, r0w3, r1w3, r2w3, r3w3, r4w3⟩ := c5 h1w3))
        have hG := c5 (set5 h0w3 (.int .i64 0) (.int .i64 0) (.int .i64 0) (.string ⟨#[]⟩) (.string ⟨#[]⟩))
        have hbl := set5_below hww3 (Nat.le_refl _) (.int .i64 0) (.int .i64 0) (.int .i64 0) (.string ⟨#[]⟩) (.string ⟨#[]⟩)
        refine bodyPost_ret (v := verV errV) (by simp [verV, errV, results, Tryz.f71, go_sem, hG.1.1, hG.1.2.1, hG.1.2.2.1, hG.1.2.2.2.1, hG.1.2.2.2.2]) rfl ⟨rfl, hbl⟩
end Go.Proofs.YtcfmaeonginefaaGreatDoor.Parse3
