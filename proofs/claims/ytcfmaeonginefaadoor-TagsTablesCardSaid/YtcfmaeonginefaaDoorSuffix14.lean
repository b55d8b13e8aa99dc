/- graftbedref14.Suffix: what it answers. -/
import Derived.Test.YtcfmaeonginefaaDoorSuffix
namespace Go.Proofs.YtcfmaeonginefaaDoor.Suffix14
open Go Go.RowKit Go.Shelf Go.Proofs.YtcfmaeonginefaaDoor.Cut Go.Proofs.YtcfmaeonginefaaDoor.Made Go.Proofs.YtcfmaeonginefaaDoor.Base Go.Proofs.YtcfmaeonginefaaDoor.RefMade Go.Proofs.YtcfmaeonginefaaDoor.Sets Go.Proofs.YtcfmaeonginefaaDoor.Of Go.Proofs.YtcfmaeonginefaaDoor.Has Go.Proofs.YtcfmaeonginefaaDoor.Check Go.Proofs.YtcfmaeonginefaaDoor.Split Go.Proofs.YtcfmaeonginefaaDoor.Suffix
set_option linter.unusedSimpArgs false
set_option linter.unusedVariables false

theorem has14q {v : Value} {xs : List ByteArray} (s : ByteArray) {r : Bool} (w : World) (h : Rq w v xs) (hn : xs.length ≤ 1048577) (hr : inL s xs = r) :
    Calls Tryd.prog 28 #[v, .string s] w fun e w' => e = .returned (.bool r) ∧ w' = w := (has14 s w h hn).mono fun e w' k => ⟨by rw [k.1, hr], k.2.symm⟩
theorem rq_open {w : World} {v : Value} {l : List ByteArray} (h : Rq w v l) (hl : 0 < l.length) : ∃ g o c, v = .slice (some ⟨g, o, none⟩) l.length c ∧ l.length ≤ c ∧ ∀ i, i < l.length → w.cell? ⟨g, o + i, none⟩ = some (.string (l.getD i nul)) := by
  obtain ⟨A, c, rfl, hA, hc, hr⟩ := h
  obtain ⟨g, o, rfl, -⟩ := hr 0 hl
  refine ⟨g, o, c, rfl, hc, fun i hi => ?_⟩
  obtain ⟨g', o', hg, hcell⟩ := hr i hi
  cases hg
  rw [hcell]; simp [List.getD, hi]
theorem cut_at (s : ByteArray) (c : UInt8) (k : Nat) (hk : k < s.size) (h : ∀ b ∈ s.data.toList.take k, b ≠ c) (he : s[k] = c) : (cutB s c).1 = s.extract 0 k := by
  have hi : ix s c = k := ib_take _ _ h (by rw [lenS]; exact hk) he
  unfold cutB
  rw [hi, if_pos (by omega)]
  rfl
theorem cut_end (s : ByteArray) (c : UInt8) (h : ∀ b ∈ s.data.toList.take s.size, b ≠ c) : (cutB s c).1 = s := by
  have hi : ix s c = -1 := ib_none _ (by rwa [List.take_of_length_le (by rw [lenS]; exact Nat.le_refl _)] at h)
  unfold cutB
  rw [hi, if_neg (by omega)]
theorem take_ne (s : ByteArray) (c : UInt8) (k : Nat) (hk : k < s.size) (h : ∀ b ∈ s.data.toList.take k, b ≠ c) (he : s[k] ≠ c) : ∀ b ∈ s.data.toList.take (k + 1), b ≠ c := by
  intro b hb
  rw [List.take_succ_eq_append_getElem (by rw [lenS]; exact hk)] at hb
  rcases List.mem_append.1 hb with hb | hb
  · exact h b hb
  · rw [List.mem_singleton.1 hb]; exact he

set_option maxRecDepth 100000 in
set_option maxHeartbeats 16000000 in
theorem suffix14 (v0 v1 v2 v3 v4 v5 : Value) (OS Un Ar St Re Li : List ByteArray) (s : ByteArray) (w : World) (h0 : Rq w v0 OS) (h1 : Rq w v1 Un) (h2 : Rq w v2 Ar) (h3 : Rq w v3 St) (h4 : Rq w v4 Re) (h5 : Rq w v5 Li)
    (f0 : Fit OS) (f2 : Fit Ar) (hs : s.size ≤ 1048576) :
    Calls Tryd.prog 11 #[.agg #[v0, v1, v2, v3, v4, v5], .string s] w fun e w' => e = .returned (.tuple #[.string (sufR OS Ar s).1, .string (sufR OS Ar s).2.1, .bool (sufR OS Ar s).2.2]) ∧ Below w.heap.size w w' := by
  have hB := below_alloc w (.cells #[v0, v1, v2, v3, v4, v5] 24)
  have hsz := alloc_size w (.cells #[v0, v1, v2, v3, v4, v5] 24)
  have hsq : ∀ q, ((w.alloc (.cells #[v0, v1, v2, v3, v4, v5] 24)).drewN q).heap.size = w.heap.size + 1 := fun q => hsz
  have hlt : w.heap.size < (w.alloc (.cells #[v0, v1, v2, v3, v4, v5] 24)).heap.size := by rw [hsz]; exact Nat.lt_succ_self _
  have c0 := cell_new w #[v0, v1, v2, v3, v4, v5] 24 0 v0 rfl
  have c2 := cell_new w #[v0, v1, v2, v3, v4, v5] 24 2 v2 rfl
  replace h0 := rq_below h0 hB
  replace h2 := rq_below h2 hB
  obtain ⟨A0, k0, e0, _⟩ := id h0
  obtain ⟨A2, k2, e2, _⟩ := id h2
  subst e0 e2
  have z0 := f0.1
  have z2 := f2.1
  obtain ⟨t, ht⟩ : ∃ t, (cutB s 46).1 = t := ⟨_, rfl⟩
  have hts : t.size ≤ 1048576 := by rw [← ht]; exact Nat.le_trans (cutB_size1 s 46) hs
  have HT := Lib.hid ht
  obtain ⟨l, hl⟩ : ∃ l, splB 95 t = l := ⟨_, rfl⟩
  have hl1 : 0 < l.length := by rw [← hl]; exact spl_pos 95 t
  have hl2 : l.length ≤ 1048577 := by rw [← hl]; unfold splB; rw [List.length_map]; have := spl_length 95 t.data.toList; have := lenS t; omega
  have HL := Lib.hid hl
  obtain ⟨R, hR⟩ : ∃ R, sufR OS Ar s = R := ⟨_, rfl⟩
  rw [hR]
  unfold sufR sufL at hR
  rw [ht, hl] at hR
  clear ht hl
  obtain ⟨n, hn⟩ : ∃ n, l.length = n := ⟨_, rfl⟩
  rw [hn] at hR hl1 hl2
  have HN := Lib.hid hn
  obtain ⟨x1, hx1⟩ : ∃ x, l.getD (n - 1) nul = x := ⟨_, rfl⟩
  obtain ⟨x2, hx2⟩ : ∃ x, l.getD (n - 2) nul = x := ⟨_, rfl⟩
  obtain ⟨x3, hx3⟩ : ∃ x, l.getD (n - 3) nul = x := ⟨_, rfl⟩
  rw [hx1, hx2, hx3] at hR
  have HX1 := Lib.hid hx1
  have HX2 := Lib.hid hx2
  have HX3 := Lib.hid hx3
  have HR := Lib.hid hR
  clear hR hx1 hx2 hx3 hn
  have hcall : Calls Tryd.prog 27 #[.string t, .int .u8 95] (w.alloc (.cells #[.slice A0 OS.length k0, v1, .slice A2 Ar.length k2, v3, v4, v5] 24)) fun e w' => ∃ g o c, e = .returned (.slice (some ⟨g, o, none⟩) n c) ∧ n ≤ c ∧ (∀ i, i < n → w'.cell? ⟨g, o + i, none⟩ = some (.string (l.getD i nul))) ∧ Below (w.alloc (.cells #[.slice A0 OS.length k0, v1, .slice A2 Ar.length k2, v3, v4, v5] 24)).heap.size (w.alloc (.cells #[.slice A0 OS.length k0, v1, .slice A2 Ar.length k2, v3, v4, v5] 24)) w' := by
    refine (split3 t 95 hts _).mono fun e w' k => ?_
    obtain ⟨v, rfl, hrow, hb⟩ := k
    rw [HL.out] at hrow
    obtain ⟨g, o, c, rfl, hcap, hcc⟩ := rq_open (rq_row hrow) (by rw [HN.out]; exact hl1)
    rw [HN.out] at hcap hcc ⊢
    exact ⟨g, o, c, rfl, hcap, hcc, hb⟩
  by_cases hn1 : n ≤ 1
  · obtain rfl : n = 1 := by omega
    have HS := Lib.hid (show R = (nul, nul, false) by rw [← HR.out]; unfold sufF; simp [])
    go_enter Tryd.func11, Tryd.ntmps11
    go_wp2
    go_loop [7] (fun i => ∃ k : Nat, i = .int .i64 k ∧ k ≤ s.size ∧ Hid (∀ b ∈ s.data.toList.take k, b ≠ 46)) (fun i => s.size - (intOf i).toNat)
    case atStart => exact ⟨0, rfl, Nat.zero_le _, Lib.hid (by simp)⟩
    case round =>
      obtain ⟨k, rfl, hk, HI⟩ := hrel
      by_cases hlk : k < s.size
      · have hki : (k : Int) < s.size := by omega
        by_cases h46 : (s[k].toNat : Int) = 46
        · have HE := Lib.hid (show s.extract 0 k = t by rw [← HT.out]; exact (cut_at s 46 k hlk HI.out (UInt8.toNat_inj.1 (by have : (46 : UInt8).toNat = 46 := rfl; omega))).symm)
          have n46 : ((s[k].toNat : Int) != 46) = false := by rw [h46]; rfl
          have hks : (k : Int) ≤ s.size := by omega
          go_wp2_with (first
            | (go_at_call 27; rw [HE.out]; refine hcall.mono ?_; rintro e w2_0 ⟨g, o, c, rfl, hcap, hcc, hb2⟩; have HQ0_0 := Lib.hid (rq_below h0 hb2); have HQ2_0 := Lib.hid (rq_below h2 hb2); have d0_0 := (hb2.cell (p := ⟨w.heap.size, 0, none⟩) hlt).trans c0; have d2_0 := (hb2.cell (p := ⟨w.heap.size, 2, none⟩) hlt).trans c2; have hbb_0 := hB.trans (hb2.mono hB.size)))
          go_quiet (fail)
          rename Nat => nq_0
          have HQ0_1 := Lib.hid (rq_drew HQ0_0.out nq_0)
          have HQ2_1 := Lib.hid (rq_drew HQ2_0.out nq_0)
          have d0_1 : (w2_0.drewN nq_0).cell? ⟨w.heap.size, 0, none⟩ = some (.slice A0 OS.length k0) := d0_0
          have d2_1 : (w2_0.drewN nq_0).cell? ⟨w.heap.size, 2, none⟩ = some (.slice A2 Ar.length k2) := d2_0
          have hbb_1 := pw_drewN hbb_0 nq_0
          generalize w2_0.drewN nq_0 = w2_1 at *
          clear HQ0_0 HQ2_0 d0_0 d2_0 hbb_0
          go_wp2
          go_quiet (fail)
          rename Nat => nq_1
          have HQ0_2 := Lib.hid (rq_drew HQ0_1.out nq_1)
          have HQ2_2 := Lib.hid (rq_drew HQ2_1.out nq_1)
          have d0_2 : (w2_1.drewN nq_1).cell? ⟨w.heap.size, 0, none⟩ = some (.slice A0 OS.length k0) := d0_1
          have d2_2 : (w2_1.drewN nq_1).cell? ⟨w.heap.size, 2, none⟩ = some (.slice A2 Ar.length k2) := d2_1
          have hbb_2 := pw_drewN hbb_1 nq_1
          generalize w2_1.drewN nq_1 = w2_2 at *
          clear HQ0_1 HQ2_1 d0_1 d2_1 hbb_1
          go_wp2
          go_ret3
          exact ⟨ret3 HS.out, hbb_2⟩
        · have HI2 := Lib.hid (take_ne s 46 k hlk HI.out (fun e => h46 (by rw [e]; rfl)))
          have n46 : ((s[k].toNat : Int) != 46) = true := by simpa using h46
          go_wp2_with (first | (exfalso; rename_i hu _; simp [undef] at hu; done))
          go_round
          case rel => exact ⟨k + 1, by go_num, by omega, HI2⟩
          case measure => simp [intOf] <;> omega
      · obtain rfl : k = s.size := by omega
        have HE := Lib.hid (show s = t by rw [← HT.out]; exact (cut_end s 46 HI.out).symm)
        go_wp2_with (first
          | (go_at_call 27; rw [HE.out]; refine hcall.mono ?_; rintro e w2_0 ⟨g, o, c, rfl, hcap, hcc, hb2⟩; have HQ0_0 := Lib.hid (rq_below h0 hb2); have HQ2_0 := Lib.hid (rq_below h2 hb2); have d0_0 := (hb2.cell (p := ⟨w.heap.size, 0, none⟩) hlt).trans c0; have d2_0 := (hb2.cell (p := ⟨w.heap.size, 2, none⟩) hlt).trans c2; have hbb_0 := hB.trans (hb2.mono hB.size)))
        go_quiet (fail)
        rename Nat => nq_0
        have HQ0_1 := Lib.hid (rq_drew HQ0_0.out nq_0)
        have HQ2_1 := Lib.hid (rq_drew HQ2_0.out nq_0)
        have d0_1 : (w2_0.drewN nq_0).cell? ⟨w.heap.size, 0, none⟩ = some (.slice A0 OS.length k0) := d0_0
        have d2_1 : (w2_0.drewN nq_0).cell? ⟨w.heap.size, 2, none⟩ = some (.slice A2 Ar.length k2) := d2_0
        have hbb_1 := pw_drewN hbb_0 nq_0
        generalize w2_0.drewN nq_0 = w2_1 at *
        clear HQ0_0 HQ2_0 d0_0 d2_0 hbb_0
        go_wp2
        go_quiet (fail)
        rename Nat => nq_1
        have HQ0_2 := Lib.hid (rq_drew HQ0_1.out nq_1)
        have HQ2_2 := Lib.hid (rq_drew HQ2_1.out nq_1)
        have d0_2 : (w2_1.drewN nq_1).cell? ⟨w.heap.size, 0, none⟩ = some (.slice A0 OS.length k0) := d0_1
        have d2_2 : (w2_1.drewN nq_1).cell? ⟨w.heap.size, 2, none⟩ = some (.slice A2 Ar.length k2) := d2_1
        have hbb_2 := pw_drewN hbb_1 nq_1
        generalize w2_1.drewN nq_1 = w2_2 at *
        clear HQ0_1 HQ2_1 d0_1 d2_1 hbb_1
        go_wp2
        go_ret3
        exact ⟨ret3 HS.out, hbb_2⟩
  have hg1 : (1 : Int) < n := by omega
  have g_1_n : decide ((1 : Int) < n) = true := decide_eq_true (by omega)
  obtain ⟨m1, hm1n⟩ : ∃ m1, n - 1 = m1 := ⟨_, rfl⟩
  have HM1 := Lib.hid hm1n
  have b1 : (m1 : Int) < n := by omega
  have w_n_1 : IntKind.i64.wrap ((n : Int) - 1) = (m1 : Int) := by rw [IntWalk.i64_in _ (by omega)]; omega
  have v_n_1 : (n : Int) - 1 = (m1 : Int) := by omega
  cases ht : testS x1 with
  | false =>
    have ht' := ht
    unfold testS at ht'
    cases ha : inL x1 Ar with
    | false =>
      have HA := Lib.hid ha
      cases ho : inL x1 OS with
      | false =>
        have HO := Lib.hid ho
        have HS := Lib.hid (show R = (nul, nul, false) by rw [← HR.out]; unfold sufF; simp [hn1, ht, ha, ho])
        clear ha ho ht
        go_enter Tryd.func11, Tryd.ntmps11
        go_wp2
        go_loop [7] (fun i => ∃ k : Nat, i = .int .i64 k ∧ k ≤ s.size ∧ Hid (∀ b ∈ s.data.toList.take k, b ≠ 46)) (fun i => s.size - (intOf i).toNat)
        case atStart => exact ⟨0, rfl, Nat.zero_le _, Lib.hid (by simp)⟩
        case round =>
          obtain ⟨k, rfl, hk, HI⟩ := hrel
          by_cases hlk : k < s.size
          · have hki : (k : Int) < s.size := by omega
            by_cases h46 : (s[k].toNat : Int) = 46
            · have HE := Lib.hid (show s.extract 0 k = t by rw [← HT.out]; exact (cut_at s 46 k hlk HI.out (UInt8.toNat_inj.1 (by have : (46 : UInt8).toNat = 46 := rfl; omega))).symm)
              have n46 : ((s[k].toNat : Int) != 46) = false := by rw [h46]; rfl
              have hks : (k : Int) ≤ s.size := by omega
              go_wp2_with (first
                | (go_at_call 27; rw [HE.out]; refine hcall.mono ?_; rintro e w2_0 ⟨g, o, c, rfl, hcap, hcc, hb2⟩; have HQ0_0 := Lib.hid (rq_below h0 hb2); have HQ2_0 := Lib.hid (rq_below h2 hb2); have d0_0 := (hb2.cell (p := ⟨w.heap.size, 0, none⟩) hlt).trans c0; have d2_0 := (hb2.cell (p := ⟨w.heap.size, 2, none⟩) hlt).trans c2; have hbb_0 := hB.trans (hb2.mono hB.size); have k1_0 := hcc (n - 1) (by omega); rw [HX1.out, HM1.out] at k1_0))
              go_quiet ((go_at_call 28; first | exact Calls.quiet_of_same (has14q x1 _ (rq_drew HQ2_0.out _) (by omega) HA.out) | exact Calls.quiet_of_same (has14q x1 _ HQ2_0.out (by omega) HA.out)))
              rename Nat => nq_0
              have HQ0_1 := Lib.hid (rq_drew HQ0_0.out nq_0)
              have HQ2_1 := Lib.hid (rq_drew HQ2_0.out nq_0)
              have d0_1 : (w2_0.drewN nq_0).cell? ⟨w.heap.size, 0, none⟩ = some (.slice A0 OS.length k0) := d0_0
              have d2_1 : (w2_0.drewN nq_0).cell? ⟨w.heap.size, 2, none⟩ = some (.slice A2 Ar.length k2) := d2_0
              have k1_1 : (w2_0.drewN nq_0).cell? ⟨g, o + m1, none⟩ = some (.string x1) := k1_0
              have hbb_1 := pw_drewN hbb_0 nq_0
              generalize w2_0.drewN nq_0 = w2_1 at *
              clear HQ0_0 HQ2_0 d0_0 d2_0 hbb_0 k1_0
              go_wp2
              go_quiet ((go_at_call 28; first | exact Calls.quiet_of_same (has14q x1 _ (rq_drew HQ0_1.out _) (by omega) HO.out) | exact Calls.quiet_of_same (has14q x1 _ HQ0_1.out (by omega) HO.out)))
              rename Nat => nq_1
              have HQ0_2 := Lib.hid (rq_drew HQ0_1.out nq_1)
              have HQ2_2 := Lib.hid (rq_drew HQ2_1.out nq_1)
              have d0_2 : (w2_1.drewN nq_1).cell? ⟨w.heap.size, 0, none⟩ = some (.slice A0 OS.length k0) := d0_1
              have d2_2 : (w2_1.drewN nq_1).cell? ⟨w.heap.size, 2, none⟩ = some (.slice A2 Ar.length k2) := d2_1
              have k1_2 : (w2_1.drewN nq_1).cell? ⟨g, o + m1, none⟩ = some (.string x1) := k1_1
              have hbb_2 := pw_drewN hbb_1 nq_1
              generalize w2_1.drewN nq_1 = w2_2 at *
              clear HQ0_1 HQ2_1 d0_1 d2_1 hbb_1 k1_1
              go_wp2
              go_ret3
              exact ⟨ret3 HS.out, hbb_2⟩
            · have HI2 := Lib.hid (take_ne s 46 k hlk HI.out (fun e => h46 (by rw [e]; rfl)))
              have n46 : ((s[k].toNat : Int) != 46) = true := by simpa using h46
              go_wp2_with (first | (exfalso; rename_i hu _; simp [undef] at hu; done))
              go_round
              case rel => exact ⟨k + 1, by go_num, by omega, HI2⟩
              case measure => simp [intOf] <;> omega
          · obtain rfl : k = s.size := by omega
            have HE := Lib.hid (show s = t by rw [← HT.out]; exact (cut_end s 46 HI.out).symm)
            go_wp2_with (first
              | (go_at_call 27; rw [HE.out]; refine hcall.mono ?_; rintro e w2_0 ⟨g, o, c, rfl, hcap, hcc, hb2⟩; have HQ0_0 := Lib.hid (rq_below h0 hb2); have HQ2_0 := Lib.hid (rq_below h2 hb2); have d0_0 := (hb2.cell (p := ⟨w.heap.size, 0, none⟩) hlt).trans c0; have d2_0 := (hb2.cell (p := ⟨w.heap.size, 2, none⟩) hlt).trans c2; have hbb_0 := hB.trans (hb2.mono hB.size); have k1_0 := hcc (n - 1) (by omega); rw [HX1.out, HM1.out] at k1_0))
            go_quiet ((go_at_call 28; first | exact Calls.quiet_of_same (has14q x1 _ (rq_drew HQ2_0.out _) (by omega) HA.out) | exact Calls.quiet_of_same (has14q x1 _ HQ2_0.out (by omega) HA.out)))
            rename Nat => nq_0
            have HQ0_1 := Lib.hid (rq_drew HQ0_0.out nq_0)
            have HQ2_1 := Lib.hid (rq_drew HQ2_0.out nq_0)
            have d0_1 : (w2_0.drewN nq_0).cell? ⟨w.heap.size, 0, none⟩ = some (.slice A0 OS.length k0) := d0_0
            have d2_1 : (w2_0.drewN nq_0).cell? ⟨w.heap.size, 2, none⟩ = some (.slice A2 Ar.length k2) := d2_0
            have k1_1 : (w2_0.drewN nq_0).cell? ⟨g, o + m1, none⟩ = some (.string x1) := k1_0
            have hbb_1 := pw_drewN hbb_0 nq_0
            generalize w2_0.drewN nq_0 = w2_1 at *
            clear HQ0_0 HQ2_0 d0_0 d2_0 hbb_0 k1_0
            go_wp2
            go_quiet ((go_at_call 28; first | exact Calls.quiet_of_same (has14q x1 _ (rq_drew HQ0_1.out _) (by omega) HO.out) | exact Calls.quiet_of_same (has14q x1 _ HQ0_1.out (by omega) HO.out)))
            rename Nat => nq_1
            have HQ0_2 := Lib.hid (rq_drew HQ0_1.out nq_1)
            have HQ2_2 := Lib.hid (rq_drew HQ2_1.out nq_1)
            have d0_2 : (w2_1.drewN nq_1).cell? ⟨w.heap.size, 0, none⟩ = some (.slice A0 OS.length k0) := d0_1
            have d2_2 : (w2_1.drewN nq_1).cell? ⟨w.heap.size, 2, none⟩ = some (.slice A2 Ar.length k2) := d2_1
            have k1_2 : (w2_1.drewN nq_1).cell? ⟨g, o + m1, none⟩ = some (.string x1) := k1_1
            have hbb_2 := pw_drewN hbb_1 nq_1
            generalize w2_1.drewN nq_1 = w2_2 at *
            clear HQ0_1 HQ2_1 d0_1 d2_1 hbb_1 k1_1
            go_wp2
            go_ret3
            exact ⟨ret3 HS.out, hbb_2⟩
      | true =>
        have HO := Lib.hid ho
        have HS := Lib.hid (show R = (x1, nul, false) by rw [← HR.out]; unfold sufF; simp [hn1, ht, ha, ho])
        clear ha ho ht
        go_enter Tryd.func11, Tryd.ntmps11
        go_wp2
        go_loop [7] (fun i => ∃ k : Nat, i = .int .i64 k ∧ k ≤ s.size ∧ Hid (∀ b ∈ s.data.toList.take k, b ≠ 46)) (fun i => s.size - (intOf i).toNat)
        case atStart => exact ⟨0, rfl, Nat.zero_le _, Lib.hid (by simp)⟩
        case round =>
          obtain ⟨k, rfl, hk, HI⟩ := hrel
          by_cases hlk : k < s.size
          · have hki : (k : Int) < s.size := by omega
            by_cases h46 : (s[k].toNat : Int) = 46
            · have HE := Lib.hid (show s.extract 0 k = t by rw [← HT.out]; exact (cut_at s 46 k hlk HI.out (UInt8.toNat_inj.1 (by have : (46 : UInt8).toNat = 46 := rfl; omega))).symm)
              have n46 : ((s[k].toNat : Int) != 46) = false := by rw [h46]; rfl
              have hks : (k : Int) ≤ s.size := by omega
              go_wp2_with (first
                | (go_at_call 27; rw [HE.out]; refine hcall.mono ?_; rintro e w2_0 ⟨g, o, c, rfl, hcap, hcc, hb2⟩; have HQ0_0 := Lib.hid (rq_below h0 hb2); have HQ2_0 := Lib.hid (rq_below h2 hb2); have d0_0 := (hb2.cell (p := ⟨w.heap.size, 0, none⟩) hlt).trans c0; have d2_0 := (hb2.cell (p := ⟨w.heap.size, 2, none⟩) hlt).trans c2; have hbb_0 := hB.trans (hb2.mono hB.size); have k1_0 := hcc (n - 1) (by omega); rw [HX1.out, HM1.out] at k1_0))
              go_quiet ((go_at_call 28; first | exact Calls.quiet_of_same (has14q x1 _ (rq_drew HQ2_0.out _) (by omega) HA.out) | exact Calls.quiet_of_same (has14q x1 _ HQ2_0.out (by omega) HA.out)))
              rename Nat => nq_0
              have HQ0_1 := Lib.hid (rq_drew HQ0_0.out nq_0)
              have HQ2_1 := Lib.hid (rq_drew HQ2_0.out nq_0)
              have d0_1 : (w2_0.drewN nq_0).cell? ⟨w.heap.size, 0, none⟩ = some (.slice A0 OS.length k0) := d0_0
              have d2_1 : (w2_0.drewN nq_0).cell? ⟨w.heap.size, 2, none⟩ = some (.slice A2 Ar.length k2) := d2_0
              have k1_1 : (w2_0.drewN nq_0).cell? ⟨g, o + m1, none⟩ = some (.string x1) := k1_0
              have hbb_1 := pw_drewN hbb_0 nq_0
              generalize w2_0.drewN nq_0 = w2_1 at *
              clear HQ0_0 HQ2_0 d0_0 d2_0 hbb_0 k1_0
              go_wp2
              go_quiet ((go_at_call 28; first | exact Calls.quiet_of_same (has14q x1 _ (rq_drew HQ0_1.out _) (by omega) HO.out) | exact Calls.quiet_of_same (has14q x1 _ HQ0_1.out (by omega) HO.out)))
              rename Nat => nq_1
              have HQ0_2 := Lib.hid (rq_drew HQ0_1.out nq_1)
              have HQ2_2 := Lib.hid (rq_drew HQ2_1.out nq_1)
              have d0_2 : (w2_1.drewN nq_1).cell? ⟨w.heap.size, 0, none⟩ = some (.slice A0 OS.length k0) := d0_1
              have d2_2 : (w2_1.drewN nq_1).cell? ⟨w.heap.size, 2, none⟩ = some (.slice A2 Ar.length k2) := d2_1
              have k1_2 : (w2_1.drewN nq_1).cell? ⟨g, o + m1, none⟩ = some (.string x1) := k1_1
              have hbb_2 := pw_drewN hbb_1 nq_1
              generalize w2_1.drewN nq_1 = w2_2 at *
              clear HQ0_1 HQ2_1 d0_1 d2_1 hbb_1 k1_1
              go_wp2
              go_ret3
              exact ⟨ret3 HS.out, hbb_2⟩
            · have HI2 := Lib.hid (take_ne s 46 k hlk HI.out (fun e => h46 (by rw [e]; rfl)))
              have n46 : ((s[k].toNat : Int) != 46) = true := by simpa using h46
              go_wp2_with (first | (exfalso; rename_i hu _; simp [undef] at hu; done))
              go_round
              case rel => exact ⟨k + 1, by go_num, by omega, HI2⟩
              case measure => simp [intOf] <;> omega
          · obtain rfl : k = s.size := by omega
            have HE := Lib.hid (show s = t by rw [← HT.out]; exact (cut_end s 46 HI.out).symm)
            go_wp2_with (first
              | (go_at_call 27; rw [HE.out]; refine hcall.mono ?_; rintro e w2_0 ⟨g, o, c, rfl, hcap, hcc, hb2⟩; have HQ0_0 := Lib.hid (rq_below h0 hb2); have HQ2_0 := Lib.hid (rq_below h2 hb2); have d0_0 := (hb2.cell (p := ⟨w.heap.size, 0, none⟩) hlt).trans c0; have d2_0 := (hb2.cell (p := ⟨w.heap.size, 2, none⟩) hlt).trans c2; have hbb_0 := hB.trans (hb2.mono hB.size); have k1_0 := hcc (n - 1) (by omega); rw [HX1.out, HM1.out] at k1_0))
            go_quiet ((go_at_call 28; first | exact Calls.quiet_of_same (has14q x1 _ (rq_drew HQ2_0.out _) (by omega) HA.out) | exact Calls.quiet_of_same (has14q x1 _ HQ2_0.out (by omega) HA.out)))
            rename Nat => nq_0
            have HQ0_1 := Lib.hid (rq_drew HQ0_0.out nq_0)
            have HQ2_1 := Lib.hid (rq_drew HQ2_0.out nq_0)
            have d0_1 : (w2_0.drewN nq_0).cell? ⟨w.heap.size, 0, none⟩ = some (.slice A0 OS.length k0) := d0_0
            have d2_1 : (w2_0.drewN nq_0).cell? ⟨w.heap.size, 2, none⟩ = some (.slice A2 Ar.length k2) := d2_0
            have k1_1 : (w2_0.drewN nq_0).cell? ⟨g, o + m1, none⟩ = some (.string x1) := k1_0
            have hbb_1 := pw_drewN hbb_0 nq_0
            generalize w2_0.drewN nq_0 = w2_1 at *
            clear HQ0_0 HQ2_0 d0_0 d2_0 hbb_0 k1_0
            go_wp2
            go_quiet ((go_at_call 28; first | exact Calls.quiet_of_same (has14q x1 _ (rq_drew HQ0_1.out _) (by omega) HO.out) | exact Calls.quiet_of_same (has14q x1 _ HQ0_1.out (by omega) HO.out)))
            rename Nat => nq_1
            have HQ0_2 := Lib.hid (rq_drew HQ0_1.out nq_1)
            have HQ2_2 := Lib.hid (rq_drew HQ2_1.out nq_1)
            have d0_2 : (w2_1.drewN nq_1).cell? ⟨w.heap.size, 0, none⟩ = some (.slice A0 OS.length k0) := d0_1
            have d2_2 : (w2_1.drewN nq_1).cell? ⟨w.heap.size, 2, none⟩ = some (.slice A2 Ar.length k2) := d2_1
            have k1_2 : (w2_1.drewN nq_1).cell? ⟨g, o + m1, none⟩ = some (.string x1) := k1_1
            have hbb_2 := pw_drewN hbb_1 nq_1
            generalize w2_1.drewN nq_1 = w2_2 at *
            clear HQ0_1 HQ2_1 d0_1 d2_1 hbb_1 k1_1
            go_wp2
            go_ret3
            exact ⟨ret3 HS.out, hbb_2⟩
    | true =>
      have HA := Lib.hid ha
      by_cases hn2 : n ≤ 2
      · have g_2_n : decide ((2 : Int) < n) = false := decide_eq_false (by omega)
        have HS := Lib.hid (show R = (nul, x1, false) by rw [← HR.out]; unfold sufF; simp [hn1, hn2, ht, ha])
        clear ha ht
        go_enter Tryd.func11, Tryd.ntmps11
        go_wp2
        go_loop [7] (fun i => ∃ k : Nat, i = .int .i64 k ∧ k ≤ s.size ∧ Hid (∀ b ∈ s.data.toList.take k, b ≠ 46)) (fun i => s.size - (intOf i).toNat)
        case atStart => exact ⟨0, rfl, Nat.zero_le _, Lib.hid (by simp)⟩
        case round =>
          obtain ⟨k, rfl, hk, HI⟩ := hrel
          by_cases hlk : k < s.size
          · have hki : (k : Int) < s.size := by omega
            by_cases h46 : (s[k].toNat : Int) = 46
            · have HE := Lib.hid (show s.extract 0 k = t by rw [← HT.out]; exact (cut_at s 46 k hlk HI.out (UInt8.toNat_inj.1 (by have : (46 : UInt8).toNat = 46 := rfl; omega))).symm)
              have n46 : ((s[k].toNat : Int) != 46) = false := by rw [h46]; rfl
              have hks : (k : Int) ≤ s.size := by omega
              go_wp2_with (first
                | (go_at_call 27; rw [HE.out]; refine hcall.mono ?_; rintro e w2_0 ⟨g, o, c, rfl, hcap, hcc, hb2⟩; have HQ0_0 := Lib.hid (rq_below h0 hb2); have HQ2_0 := Lib.hid (rq_below h2 hb2); have d0_0 := (hb2.cell (p := ⟨w.heap.size, 0, none⟩) hlt).trans c0; have d2_0 := (hb2.cell (p := ⟨w.heap.size, 2, none⟩) hlt).trans c2; have hbb_0 := hB.trans (hb2.mono hB.size); have k1_0 := hcc (n - 1) (by omega); rw [HX1.out, HM1.out] at k1_0))
              go_quiet ((go_at_call 28; first | exact Calls.quiet_of_same (has14q x1 _ (rq_drew HQ2_0.out _) (by omega) HA.out) | exact Calls.quiet_of_same (has14q x1 _ HQ2_0.out (by omega) HA.out)))
              rename Nat => nq_0
              have HQ0_1 := Lib.hid (rq_drew HQ0_0.out nq_0)
              have HQ2_1 := Lib.hid (rq_drew HQ2_0.out nq_0)
              have d0_1 : (w2_0.drewN nq_0).cell? ⟨w.heap.size, 0, none⟩ = some (.slice A0 OS.length k0) := d0_0
              have d2_1 : (w2_0.drewN nq_0).cell? ⟨w.heap.size, 2, none⟩ = some (.slice A2 Ar.length k2) := d2_0
              have k1_1 : (w2_0.drewN nq_0).cell? ⟨g, o + m1, none⟩ = some (.string x1) := k1_0
              have hbb_1 := pw_drewN hbb_0 nq_0
              generalize w2_0.drewN nq_0 = w2_1 at *
              clear HQ0_0 HQ2_0 d0_0 d2_0 hbb_0 k1_0
              go_wp2
              go_quiet (fail)
              rename Nat => nq_1
              have HQ0_2 := Lib.hid (rq_drew HQ0_1.out nq_1)
              have HQ2_2 := Lib.hid (rq_drew HQ2_1.out nq_1)
              have d0_2 : (w2_1.drewN nq_1).cell? ⟨w.heap.size, 0, none⟩ = some (.slice A0 OS.length k0) := d0_1
              have d2_2 : (w2_1.drewN nq_1).cell? ⟨w.heap.size, 2, none⟩ = some (.slice A2 Ar.length k2) := d2_1
              have k1_2 : (w2_1.drewN nq_1).cell? ⟨g, o + m1, none⟩ = some (.string x1) := k1_1
              have hbb_2 := pw_drewN hbb_1 nq_1
              generalize w2_1.drewN nq_1 = w2_2 at *
              clear HQ0_1 HQ2_1 d0_1 d2_1 hbb_1 k1_1
              go_wp2
              go_quiet (fail)
              rename Nat => nq_2
              have HQ0_3 := Lib.hid (rq_drew HQ0_2.out nq_2)
              have HQ2_3 := Lib.hid (rq_drew HQ2_2.out nq_2)
              have d0_3 : (w2_2.drewN nq_2).cell? ⟨w.heap.size, 0, none⟩ = some (.slice A0 OS.length k0) := d0_2
              have d2_3 : (w2_2.drewN nq_2).cell? ⟨w.heap.size, 2, none⟩ = some (.slice A2 Ar.length k2) := d2_2
              have k1_3 : (w2_2.drewN nq_2).cell? ⟨g, o + m1, none⟩ = some (.string x1) := k1_2
              have hbb_3 := pw_drewN hbb_2 nq_2
              generalize w2_2.drewN nq_2 = w2_3 at *
              clear HQ0_2 HQ2_2 d0_2 d2_2 hbb_2 k1_2
              go_wp2
              go_ret3
              exact ⟨ret3 HS.out, hbb_3⟩
            · have HI2 := Lib.hid (take_ne s 46 k hlk HI.out (fun e => h46 (by rw [e]; rfl)))
              have n46 : ((s[k].toNat : Int) != 46) = true := by simpa using h46
              go_wp2_with (first | (exfalso; rename_i hu _; simp [undef] at hu; done))
              go_round
              case rel => exact ⟨k + 1, by go_num, by omega, HI2⟩
              case measure => simp [intOf] <;> omega
          · obtain rfl : k = s.size := by omega
            have HE := Lib.hid (show s = t by rw [← HT.out]; exact (cut_end s 46 HI.out).symm)
            go_wp2_with (first
              | (go_at_call 27; rw [HE.out]; refine hcall.mono ?_; rintro e w2_0 ⟨g, o, c, rfl, hcap, hcc, hb2⟩; have HQ0_0 := Lib.hid (rq_below h0 hb2); have HQ2_0 := Lib.hid (rq_below h2 hb2); have d0_0 := (hb2.cell (p := ⟨w.heap.size, 0, none⟩) hlt).trans c0; have d2_0 := (hb2.cell (p := ⟨w.heap.size, 2, none⟩) hlt).trans c2; have hbb_0 := hB.trans (hb2.mono hB.size); have k1_0 := hcc (n - 1) (by omega); rw [HX1.out, HM1.out] at k1_0))
            go_quiet ((go_at_call 28; first | exact Calls.quiet_of_same (has14q x1 _ (rq_drew HQ2_0.out _) (by omega) HA.out) | exact Calls.quiet_of_same (has14q x1 _ HQ2_0.out (by omega) HA.out)))
            rename Nat => nq_0
            have HQ0_1 := Lib.hid (rq_drew HQ0_0.out nq_0)
            have HQ2_1 := Lib.hid (rq_drew HQ2_0.out nq_0)
            have d0_1 : (w2_0.drewN nq_0).cell? ⟨w.heap.size, 0, none⟩ = some (.slice A0 OS.length k0) := d0_0
            have d2_1 : (w2_0.drewN nq_0).cell? ⟨w.heap.size, 2, none⟩ = some (.slice A2 Ar.length k2) := d2_0
            have k1_1 : (w2_0.drewN nq_0).cell? ⟨g, o + m1, none⟩ = some (.string x1) := k1_0
            have hbb_1 := pw_drewN hbb_0 nq_0
            generalize w2_0.drewN nq_0 = w2_1 at *
            clear HQ0_0 HQ2_0 d0_0 d2_0 hbb_0 k1_0
            go_wp2
            go_quiet (fail)
            rename Nat => nq_1
            have HQ0_2 := Lib.hid (rq_drew HQ0_1.out nq_1)
            have HQ2_2 := Lib.hid (rq_drew HQ2_1.out nq_1)
            have d0_2 : (w2_1.drewN nq_1).cell? ⟨w.heap.size, 0, none⟩ = some (.slice A0 OS.length k0) := d0_1
            have d2_2 : (w2_1.drewN nq_1).cell? ⟨w.heap.size, 2, none⟩ = some (.slice A2 Ar.length k2) := d2_1
            have k1_2 : (w2_1.drewN nq_1).cell? ⟨g, o + m1, none⟩ = some (.string x1) := k1_1
            have hbb_2 := pw_drewN hbb_1 nq_1
            generalize w2_1.drewN nq_1 = w2_2 at *
            clear HQ0_1 HQ2_1 d0_1 d2_1 hbb_1 k1_1
            go_wp2
            go_quiet (fail)
            rename Nat => nq_2
            have HQ0_3 := Lib.hid (rq_drew HQ0_2.out nq_2)
            have HQ2_3 := Lib.hid (rq_drew HQ2_2.out nq_2)
            have d0_3 : (w2_2.drewN nq_2).cell? ⟨w.heap.size, 0, none⟩ = some (.slice A0 OS.length k0) := d0_2
            have d2_3 : (w2_2.drewN nq_2).cell? ⟨w.heap.size, 2, none⟩ = some (.slice A2 Ar.length k2) := d2_2
            have k1_3 : (w2_2.drewN nq_2).cell? ⟨g, o + m1, none⟩ = some (.string x1) := k1_2
            have hbb_3 := pw_drewN hbb_2 nq_2
            generalize w2_2.drewN nq_2 = w2_3 at *
            clear HQ0_2 HQ2_2 d0_2 d2_2 hbb_2 k1_2
            go_wp2
            go_ret3
            exact ⟨ret3 HS.out, hbb_3⟩
      · have g_2_n : decide ((2 : Int) < n) = true := decide_eq_true (by omega)
        obtain ⟨m2, hm2n⟩ : ∃ m2, n - 2 = m2 := ⟨_, rfl⟩
        have HM2 := Lib.hid hm2n
        have b2 : (m2 : Int) < n := by omega
        have w_n_2 : IntKind.i64.wrap ((n : Int) - 2) = (m2 : Int) := by rw [IntWalk.i64_in _ (by omega)]; omega
        have v_n_2 : (n : Int) - 2 = (m2 : Int) := by omega
        cases ho : inL x2 OS with
        | false =>
          have HO := Lib.hid ho
          have HS := Lib.hid (show R = (nul, x1, false) by rw [← HR.out]; unfold sufF; simp [hn1, hn2, ht, ha, ho])
          clear ha ho ht
          go_enter Tryd.func11, Tryd.ntmps11
          go_wp2
          go_loop [7] (fun i => ∃ k : Nat, i = .int .i64 k ∧ k ≤ s.size ∧ Hid (∀ b ∈ s.data.toList.take k, b ≠ 46)) (fun i => s.size - (intOf i).toNat)
          case atStart => exact ⟨0, rfl, Nat.zero_le _, Lib.hid (by simp)⟩
          case round =>
            obtain ⟨k, rfl, hk, HI⟩ := hrel
            by_cases hlk : k < s.size
            · have hki : (k : Int) < s.size := by omega
              by_cases h46 : (s[k].toNat : Int) = 46
              · have HE := Lib.hid (show s.extract 0 k = t by rw [← HT.out]; exact (cut_at s 46 k hlk HI.out (UInt8.toNat_inj.1 (by have : (46 : UInt8).toNat = 46 := rfl; omega))).symm)
                have n46 : ((s[k].toNat : Int) != 46) = false := by rw [h46]; rfl
                have hks : (k : Int) ≤ s.size := by omega
                go_wp2_with (first
                  | (go_at_call 27; rw [HE.out]; refine hcall.mono ?_; rintro e w2_0 ⟨g, o, c, rfl, hcap, hcc, hb2⟩; have HQ0_0 := Lib.hid (rq_below h0 hb2); have HQ2_0 := Lib.hid (rq_below h2 hb2); have d0_0 := (hb2.cell (p := ⟨w.heap.size, 0, none⟩) hlt).trans c0; have d2_0 := (hb2.cell (p := ⟨w.heap.size, 2, none⟩) hlt).trans c2; have hbb_0 := hB.trans (hb2.mono hB.size); have k1_0 := hcc (n - 1) (by omega); rw [HX1.out, HM1.out] at k1_0; have k2_0 := hcc (n - 2) (by omega); rw [HX2.out, HM2.out] at k2_0))
                go_quiet ((go_at_call 28; first | exact Calls.quiet_of_same (has14q x1 _ (rq_drew HQ2_0.out _) (by omega) HA.out) | exact Calls.quiet_of_same (has14q x1 _ HQ2_0.out (by omega) HA.out)))
                rename Nat => nq_0
                have HQ0_1 := Lib.hid (rq_drew HQ0_0.out nq_0)
                have HQ2_1 := Lib.hid (rq_drew HQ2_0.out nq_0)
                have d0_1 : (w2_0.drewN nq_0).cell? ⟨w.heap.size, 0, none⟩ = some (.slice A0 OS.length k0) := d0_0
                have d2_1 : (w2_0.drewN nq_0).cell? ⟨w.heap.size, 2, none⟩ = some (.slice A2 Ar.length k2) := d2_0
                have k1_1 : (w2_0.drewN nq_0).cell? ⟨g, o + m1, none⟩ = some (.string x1) := k1_0
                have k2_1 : (w2_0.drewN nq_0).cell? ⟨g, o + m2, none⟩ = some (.string x2) := k2_0
                have hbb_1 := pw_drewN hbb_0 nq_0
                generalize w2_0.drewN nq_0 = w2_1 at *
                clear HQ0_0 HQ2_0 d0_0 d2_0 hbb_0 k1_0 k2_0
                go_wp2
                go_quiet ((go_at_call 28; first | exact Calls.quiet_of_same (has14q x2 _ (rq_drew HQ0_1.out _) (by omega) HO.out) | exact Calls.quiet_of_same (has14q x2 _ HQ0_1.out (by omega) HO.out)))
                rename Nat => nq_1
                have HQ0_2 := Lib.hid (rq_drew HQ0_1.out nq_1)
                have HQ2_2 := Lib.hid (rq_drew HQ2_1.out nq_1)
                have d0_2 : (w2_1.drewN nq_1).cell? ⟨w.heap.size, 0, none⟩ = some (.slice A0 OS.length k0) := d0_1
                have d2_2 : (w2_1.drewN nq_1).cell? ⟨w.heap.size, 2, none⟩ = some (.slice A2 Ar.length k2) := d2_1
                have k1_2 : (w2_1.drewN nq_1).cell? ⟨g, o + m1, none⟩ = some (.string x1) := k1_1
                have k2_2 : (w2_1.drewN nq_1).cell? ⟨g, o + m2, none⟩ = some (.string x2) := k2_1
                have hbb_2 := pw_drewN hbb_1 nq_1
                generalize w2_1.drewN nq_1 = w2_2 at *
                clear HQ0_1 HQ2_1 d0_1 d2_1 hbb_1 k1_1 k2_1
                go_wp2
                go_quiet (fail)
                rename Nat => nq_2
                have HQ0_3 := Lib.hid (rq_drew HQ0_2.out nq_2)
                have HQ2_3 := Lib.hid (rq_drew HQ2_2.out nq_2)
                have d0_3 : (w2_2.drewN nq_2).cell? ⟨w.heap.size, 0, none⟩ = some (.slice A0 OS.length k0) := d0_2
                have d2_3 : (w2_2.drewN nq_2).cell? ⟨w.heap.size, 2, none⟩ = some (.slice A2 Ar.length k2) := d2_2
                have k1_3 : (w2_2.drewN nq_2).cell? ⟨g, o + m1, none⟩ = some (.string x1) := k1_2
                have k2_3 : (w2_2.drewN nq_2).cell? ⟨g, o + m2, none⟩ = some (.string x2) := k2_2
                have hbb_3 := pw_drewN hbb_2 nq_2
                generalize w2_2.drewN nq_2 = w2_3 at *
                clear HQ0_2 HQ2_2 d0_2 d2_2 hbb_2 k1_2 k2_2
                go_wp2
                go_ret3
                exact ⟨ret3 HS.out, hbb_3⟩
              · have HI2 := Lib.hid (take_ne s 46 k hlk HI.out (fun e => h46 (by rw [e]; rfl)))
                have n46 : ((s[k].toNat : Int) != 46) = true := by simpa using h46
                go_wp2_with (first | (exfalso; rename_i hu _; simp [undef] at hu; done))
                go_round
                case rel => exact ⟨k + 1, by go_num, by omega, HI2⟩
                case measure => simp [intOf] <;> omega
            · obtain rfl : k = s.size := by omega
              have HE := Lib.hid (show s = t by rw [← HT.out]; exact (cut_end s 46 HI.out).symm)
              go_wp2_with (first
                | (go_at_call 27; rw [HE.out]; refine hcall.mono ?_; rintro e w2_0 ⟨g, o, c, rfl, hcap, hcc, hb2⟩; have HQ0_0 := Lib.hid (rq_below h0 hb2); have HQ2_0 := Lib.hid (rq_below h2 hb2); have d0_0 := (hb2.cell (p := ⟨w.heap.size, 0, none⟩) hlt).trans c0; have d2_0 := (hb2.cell (p := ⟨w.heap.size, 2, none⟩) hlt).trans c2; have hbb_0 := hB.trans (hb2.mono hB.size); have k1_0 := hcc (n - 1) (by omega); rw [HX1.out, HM1.out] at k1_0; have k2_0 := hcc (n - 2) (by omega); rw [HX2.out, HM2.out] at k2_0))
              go_quiet ((go_at_call 28; first | exact Calls.quiet_of_same (has14q x1 _ (rq_drew HQ2_0.out _) (by omega) HA.out) | exact Calls.quiet_of_same (has14q x1 _ HQ2_0.out (by omega) HA.out)))
              rename Nat => nq_0
              have HQ0_1 := Lib.hid (rq_drew HQ0_0.out nq_0)
              have HQ2_1 := Lib.hid (rq_drew HQ2_0.out nq_0)
              have d0_1 : (w2_0.drewN nq_0).cell? ⟨w.heap.size, 0, none⟩ = some (.slice A0 OS.length k0) := d0_0
              have d2_1 : (w2_0.drewN nq_0).cell? ⟨w.heap.size, 2, none⟩ = some (.slice A2 Ar.length k2) := d2_0
              have k1_1 : (w2_0.drewN nq_0).cell? ⟨g, o + m1, none⟩ = some (.string x1) := k1_0
              have k2_1 : (w2_0.drewN nq_0).cell? ⟨g, o + m2, none⟩ = some (.string x2) := k2_0
              have hbb_1 := pw_drewN hbb_0 nq_0
              generalize w2_0.drewN nq_0 = w2_1 at *
              clear HQ0_0 HQ2_0 d0_0 d2_0 hbb_0 k1_0 k2_0
              go_wp2
              go_quiet ((go_at_call 28; first | exact Calls.quiet_of_same (has14q x2 _ (rq_drew HQ0_1.out _) (by omega) HO.out) | exact Calls.quiet_of_same (has14q x2 _ HQ0_1.out (by omega) HO.out)))
              rename Nat => nq_1
              have HQ0_2 := Lib.hid (rq_drew HQ0_1.out nq_1)
              have HQ2_2 := Lib.hid (rq_drew HQ2_1.out nq_1)
              have d0_2 : (w2_1.drewN nq_1).cell? ⟨w.heap.size, 0, none⟩ = some (.slice A0 OS.length k0) := d0_1
              have d2_2 : (w2_1.drewN nq_1).cell? ⟨w.heap.size, 2, none⟩ = some (.slice A2 Ar.length k2) := d2_1
              have k1_2 : (w2_1.drewN nq_1).cell? ⟨g, o + m1, none⟩ = some (.string x1) := k1_1
              have k2_2 : (w2_1.drewN nq_1).cell? ⟨g, o + m2, none⟩ = some (.string x2) := k2_1
              have hbb_2 := pw_drewN hbb_1 nq_1
              generalize w2_1.drewN nq_1 = w2_2 at *
              clear HQ0_1 HQ2_1 d0_1 d2_1 hbb_1 k1_1 k2_1
              go_wp2
              go_quiet (fail)
              rename Nat => nq_2
              have HQ0_3 := Lib.hid (rq_drew HQ0_2.out nq_2)
              have HQ2_3 := Lib.hid (rq_drew HQ2_2.out nq_2)
              have d0_3 : (w2_2.drewN nq_2).cell? ⟨w.heap.size, 0, none⟩ = some (.slice A0 OS.length k0) := d0_2
              have d2_3 : (w2_2.drewN nq_2).cell? ⟨w.heap.size, 2, none⟩ = some (.slice A2 Ar.length k2) := d2_2
              have k1_3 : (w2_2.drewN nq_2).cell? ⟨g, o + m1, none⟩ = some (.string x1) := k1_2
              have k2_3 : (w2_2.drewN nq_2).cell? ⟨g, o + m2, none⟩ = some (.string x2) := k2_2
              have hbb_3 := pw_drewN hbb_2 nq_2
              generalize w2_2.drewN nq_2 = w2_3 at *
              clear HQ0_2 HQ2_2 d0_2 d2_2 hbb_2 k1_2 k2_2
              go_wp2
              go_ret3
              exact ⟨ret3 HS.out, hbb_3⟩
        | true =>
          have HO := Lib.hid ho
          have HS := Lib.hid (show R = (x2, x1, false) by rw [← HR.out]; unfold sufF; simp [hn1, hn2, ht, ha, ho])
          clear ha ho ht
          go_enter Tryd.func11, Tryd.ntmps11
          go_wp2
          go_loop [7] (fun i => ∃ k : Nat, i = .int .i64 k ∧ k ≤ s.size ∧ Hid (∀ b ∈ s.data.toList.take k, b ≠ 46)) (fun i => s.size - (intOf i).toNat)
          case atStart => exact ⟨0, rfl, Nat.zero_le _, Lib.hid (by simp)⟩
          case round =>
            obtain ⟨k, rfl, hk, HI⟩ := hrel
            by_cases hlk : k < s.size
            · have hki : (k : Int) < s.size := by omega
              by_cases h46 : (s[k].toNat : Int) = 46
              · have HE := Lib.hid (show s.extract 0 k = t by rw [← HT.out]; exact (cut_at s 46 k hlk HI.out (UInt8.toNat_inj.1 (by have : (46 : UInt8).toNat = 46 := rfl; omega))).symm)
                have n46 : ((s[k].toNat : Int) != 46) = false := by rw [h46]; rfl
                have hks : (k : Int) ≤ s.size := by omega
                go_wp2_with (first
                  | (go_at_call 27; rw [HE.out]; refine hcall.mono ?_; rintro e w2_0 ⟨g, o, c, rfl, hcap, hcc, hb2⟩; have HQ0_0 := Lib.hid (rq_below h0 hb2); have HQ2_0 := Lib.hid (rq_below h2 hb2); have d0_0 := (hb2.cell (p := ⟨w.heap.size, 0, none⟩) hlt).trans c0; have d2_0 := (hb2.cell (p := ⟨w.heap.size, 2, none⟩) hlt).trans c2; have hbb_0 := hB.trans (hb2.mono hB.size); have k1_0 := hcc (n - 1) (by omega); rw [HX1.out, HM1.out] at k1_0; have k2_0 := hcc (n - 2) (by omega); rw [HX2.out, HM2.out] at k2_0))
                go_quiet ((go_at_call 28; first | exact Calls.quiet_of_same (has14q x1 _ (rq_drew HQ2_0.out _) (by omega) HA.out) | exact Calls.quiet_of_same (has14q x1 _ HQ2_0.out (by omega) HA.out)))
                rename Nat => nq_0
                have HQ0_1 := Lib.hid (rq_drew HQ0_0.out nq_0)
                have HQ2_1 := Lib.hid (rq_drew HQ2_0.out nq_0)
                have d0_1 : (w2_0.drewN nq_0).cell? ⟨w.heap.size, 0, none⟩ = some (.slice A0 OS.length k0) := d0_0
                have d2_1 : (w2_0.drewN nq_0).cell? ⟨w.heap.size, 2, none⟩ = some (.slice A2 Ar.length k2) := d2_0
                have k1_1 : (w2_0.drewN nq_0).cell? ⟨g, o + m1, none⟩ = some (.string x1) := k1_0
                have k2_1 : (w2_0.drewN nq_0).cell? ⟨g, o + m2, none⟩ = some (.string x2) := k2_0
                have hbb_1 := pw_drewN hbb_0 nq_0
                generalize w2_0.drewN nq_0 = w2_1 at *
                clear HQ0_0 HQ2_0 d0_0 d2_0 hbb_0 k1_0 k2_0
                go_wp2
                go_quiet ((go_at_call 28; first | exact Calls.quiet_of_same (has14q x2 _ (rq_drew HQ0_1.out _) (by omega) HO.out) | exact Calls.quiet_of_same (has14q x2 _ HQ0_1.out (by omega) HO.out)))
                rename Nat => nq_1
                have HQ0_2 := Lib.hid (rq_drew HQ0_1.out nq_1)
                have HQ2_2 := Lib.hid (rq_drew HQ2_1.out nq_1)
                have d0_2 : (w2_1.drewN nq_1).cell? ⟨w.heap.size, 0, none⟩ = some (.slice A0 OS.length k0) := d0_1
                have d2_2 : (w2_1.drewN nq_1).cell? ⟨w.heap.size, 2, none⟩ = some (.slice A2 Ar.length k2) := d2_1
                have k1_2 : (w2_1.drewN nq_1).cell? ⟨g, o + m1, none⟩ = some (.string x1) := k1_1
                have k2_2 : (w2_1.drewN nq_1).cell? ⟨g, o + m2, none⟩ = some (.string x2) := k2_1
                have hbb_2 := pw_drewN hbb_1 nq_1
                generalize w2_1.drewN nq_1 = w2_2 at *
                clear HQ0_1 HQ2_1 d0_1 d2_1 hbb_1 k1_1 k2_1
                go_wp2
                go_quiet (fail)
                rename Nat => nq_2
                have HQ0_3 := Lib.hid (rq_drew HQ0_2.out nq_2)
                have HQ2_3 := Lib.hid (rq_drew HQ2_2.out nq_2)
                have d0_3 : (w2_2.drewN nq_2).cell? ⟨w.heap.size, 0, none⟩ = some (.slice A0 OS.length k0) := d0_2
                have d2_3 : (w2_2.drewN nq_2).cell? ⟨w.heap.size, 2, none⟩ = some (.slice A2 Ar.length k2) := d2_2
                have k1_3 : (w2_2.drewN nq_2).cell? ⟨g, o + m1, none⟩ = some (.string x1) := k1_2
                have k2_3 : (w2_2.drewN nq_2).cell? ⟨g, o + m2, none⟩ = some (.string x2) := k2_2
                have hbb_3 := pw_drewN hbb_2 nq_2
                generalize w2_2.drewN nq_2 = w2_3 at *
                clear HQ0_2 HQ2_2 d0_2 d2_2 hbb_2 k1_2 k2_2
                go_wp2
                go_ret3
                exact ⟨ret3 HS.out, hbb_3⟩
              · have HI2 := Lib.hid (take_ne s 46 k hlk HI.out (fun e => h46 (by rw [e]; rfl)))
                have n46 : ((s[k].toNat : Int) != 46) = true := by simpa using h46
                go_wp2_with (first | (exfalso; rename_i hu _; simp [undef] at hu; done))
                go_round
                case rel => exact ⟨k + 1, by go_num, by omega, HI2⟩
                case measure => simp [intOf] <;> omega
            · obtain rfl : k = s.size := by omega
              have HE := Lib.hid (show s = t by rw [← HT.out]; exact (cut_end s 46 HI.out).symm)
              go_wp2_with (first
                | (go_at_call 27; rw [HE.out]; refine hcall.mono ?_; rintro e w2_0 ⟨g, o, c, rfl, hcap, hcc, hb2⟩; have HQ0_0 := Lib.hid (rq_below h0 hb2); have HQ2_0 := Lib.hid (rq_below h2 hb2); have d0_0 := (hb2.cell (p := ⟨w.heap.size, 0, none⟩) hlt).trans c0; have d2_0 := (hb2.cell (p := ⟨w.heap.size, 2, none⟩) hlt).trans c2; have hbb_0 := hB.trans (hb2.mono hB.size); have k1_0 := hcc (n - 1) (by omega); rw [HX1.out, HM1.out] at k1_0; have k2_0 := hcc (n - 2) (by omega); rw [HX2.out, HM2.out] at k2_0))
              go_quiet ((go_at_call 28; first | exact Calls.quiet_of_same (has14q x1 _ (rq_drew HQ2_0.out _) (by omega) HA.out) | exact Calls.quiet_of_same (has14q x1 _ HQ2_0.out (by omega) HA.out)))
              rename Nat => nq_0
              have HQ0_1 := Lib.hid (rq_drew HQ0_0.out nq_0)
              have HQ2_1 := Lib.hid (rq_drew HQ2_0.out nq_0)
              have d0_1 : (w2_0.drewN nq_0).cell? ⟨w.heap.size, 0, none⟩ = some (.slice A0 OS.length k0) := d0_0
              have d2_1 : (w2_0.drewN nq_0).cell? ⟨w.heap.size, 2, none⟩ = some (.slice A2 Ar.length k2) := d2_0
              have k1_1 : (w2_0.drewN nq_0).cell? ⟨g, o + m1, none⟩ = some (.string x1) := k1_0
              have k2_1 : (w2_0.drewN nq_0).cell? ⟨g, o + m2, none⟩ = some (.string x2) := k2_0
              have hbb_1 := pw_drewN hbb_0 nq_0
              generalize w2_0.drewN nq_0 = w2_1 at *
              clear HQ0_0 HQ2_0 d0_0 d2_0 hbb_0 k1_0 k2_0
              go_wp2
              go_quiet ((go_at_call 28; first | exact Calls.quiet_of_same (has14q x2 _ (rq_drew HQ0_1.out _) (by omega) HO.out) | exact Calls.quiet_of_same (has14q x2 _ HQ0_1.out (by omega) HO.out)))
              rename Nat => nq_1
              have HQ0_2 := Lib.hid (rq_drew HQ0_1.out nq_1)
              have HQ2_2 := Lib.hid (rq_drew HQ2_1.out nq_1)
              have d0_2 : (w2_1.drewN nq_1).cell? ⟨w.heap.size, 0, none⟩ = some (.slice A0 OS.length k0) := d0_1
              have d2_2 : (w2_1.drewN nq_1).cell? ⟨w.heap.size, 2, none⟩ = some (.slice A2 Ar.length k2) := d2_1
              have k1_2 : (w2_1.drewN nq_1).cell? ⟨g, o + m1, none⟩ = some (.string x1) := k1_1
              have k2_2 : (w2_1.drewN nq_1).cell? ⟨g, o + m2, none⟩ = some (.string x2) := k2_1
              have hbb_2 := pw_drewN hbb_1 nq_1
              generalize w2_1.drewN nq_1 = w2_2 at *
              clear HQ0_1 HQ2_1 d0_1 d2_1 hbb_1 k1_1 k2_1
              go_wp2
              go_quiet (fail)
              rename Nat => nq_2
              have HQ0_3 := Lib.hid (rq_drew HQ0_2.out nq_2)
              have HQ2_3 := Lib.hid (rq_drew HQ2_2.out nq_2)
              have d0_3 : (w2_2.drewN nq_2).cell? ⟨w.heap.size, 0, none⟩ = some (.slice A0 OS.length k0) := d0_2
              have d2_3 : (w2_2.drewN nq_2).cell? ⟨w.heap.size, 2, none⟩ = some (.slice A2 Ar.length k2) := d2_2
              have k1_3 : (w2_2.drewN nq_2).cell? ⟨g, o + m1, none⟩ = some (.string x1) := k1_2
              have k2_3 : (w2_2.drewN nq_2).cell? ⟨g, o + m2, none⟩ = some (.string x2) := k2_2
              have hbb_3 := pw_drewN hbb_2 nq_2
              generalize w2_2.drewN nq_2 = w2_3 at *
              clear HQ0_2 HQ2_2 d0_2 d2_2 hbb_2 k1_2 k2_2
              go_wp2
              go_ret3
              exact ⟨ret3 HS.out, hbb_3⟩
  | true =>
    have ht' := ht
    unfold testS at ht'
    have cm1 : (m1 : Int) ≤ n := by omega
    have cm1' : m1 ≤ n := by omega
    have cm0 : (0 : Int) ≤ m1 := by omega
    have bb2 : True := True.intro
    by_cases hn2 : n ≤ 2
    · have g_1_m1 : decide ((1 : Int) < m1) = false := decide_eq_false (by omega)
      have HS := Lib.hid (show R = (nul, nul, true) by rw [← HR.out]; unfold sufF; simp [hn1, hn2, ht])
      clear ht
      go_enter Tryd.func11, Tryd.ntmps11
      go_wp2
      go_loop [7] (fun i => ∃ k : Nat, i = .int .i64 k ∧ k ≤ s.size ∧ Hid (∀ b ∈ s.data.toList.take k, b ≠ 46)) (fun i => s.size - (intOf i).toNat)
      case atStart => exact ⟨0, rfl, Nat.zero_le _, Lib.hid (by simp)⟩
      case round =>
        obtain ⟨k, rfl, hk, HI⟩ := hrel
        by_cases hlk : k < s.size
        · have hki : (k : Int) < s.size := by omega
          by_cases h46 : (s[k].toNat : Int) = 46
          · have HE := Lib.hid (show s.extract 0 k = t by rw [← HT.out]; exact (cut_at s 46 k hlk HI.out (UInt8.toNat_inj.1 (by have : (46 : UInt8).toNat = 46 := rfl; omega))).symm)
            have n46 : ((s[k].toNat : Int) != 46) = false := by rw [h46]; rfl
            have hks : (k : Int) ≤ s.size := by omega
            go_wp2_with (first
              | (go_at_call 27; rw [HE.out]; refine hcall.mono ?_; rintro e w2_0 ⟨g, o, c, rfl, hcap, hcc, hb2⟩; have HQ0_0 := Lib.hid (rq_below h0 hb2); have HQ2_0 := Lib.hid (rq_below h2 hb2); have d0_0 := (hb2.cell (p := ⟨w.heap.size, 0, none⟩) hlt).trans c0; have d2_0 := (hb2.cell (p := ⟨w.heap.size, 2, none⟩) hlt).trans c2; have hbb_0 := hB.trans (hb2.mono hB.size); have k1_0 := hcc (n - 1) (by omega); rw [HX1.out, HM1.out] at k1_0))
            go_quiet (fail)
            rename Nat => nq_0
            have HQ0_1 := Lib.hid (rq_drew HQ0_0.out nq_0)
            have HQ2_1 := Lib.hid (rq_drew HQ2_0.out nq_0)
            have d0_1 : (w2_0.drewN nq_0).cell? ⟨w.heap.size, 0, none⟩ = some (.slice A0 OS.length k0) := d0_0
            have d2_1 : (w2_0.drewN nq_0).cell? ⟨w.heap.size, 2, none⟩ = some (.slice A2 Ar.length k2) := d2_0
            have k1_1 : (w2_0.drewN nq_0).cell? ⟨g, o + m1, none⟩ = some (.string x1) := k1_0
            have hbb_1 := pw_drewN hbb_0 nq_0
            generalize w2_0.drewN nq_0 = w2_1 at *
            clear HQ0_0 HQ2_0 d0_0 d2_0 hbb_0 k1_0
            go_wp2
            go_quiet (fail)
            rename Nat => nq_1
            have HQ0_2 := Lib.hid (rq_drew HQ0_1.out nq_1)
            have HQ2_2 := Lib.hid (rq_drew HQ2_1.out nq_1)
            have d0_2 : (w2_1.drewN nq_1).cell? ⟨w.heap.size, 0, none⟩ = some (.slice A0 OS.length k0) := d0_1
            have d2_2 : (w2_1.drewN nq_1).cell? ⟨w.heap.size, 2, none⟩ = some (.slice A2 Ar.length k2) := d2_1
            have k1_2 : (w2_1.drewN nq_1).cell? ⟨g, o + m1, none⟩ = some (.string x1) := k1_1
            have hbb_2 := pw_drewN hbb_1 nq_1
            generalize w2_1.drewN nq_1 = w2_2 at *
            clear HQ0_1 HQ2_1 d0_1 d2_1 hbb_1 k1_1
            go_wp2
            go_ret3
            exact ⟨ret3 HS.out, hbb_2⟩
          · have HI2 := Lib.hid (take_ne s 46 k hlk HI.out (fun e => h46 (by rw [e]; rfl)))
            have n46 : ((s[k].toNat : Int) != 46) = true := by simpa using h46
            go_wp2_with (first | (exfalso; rename_i hu _; simp [undef] at hu; done))
            go_round
            case rel => exact ⟨k + 1, by go_num, by omega, HI2⟩
            case measure => simp [intOf] <;> omega
        · obtain rfl : k = s.size := by omega
          have HE := Lib.hid (show s = t by rw [← HT.out]; exact (cut_end s 46 HI.out).symm)
          go_wp2_with (first
            | (go_at_call 27; rw [HE.out]; refine hcall.mono ?_; rintro e w2_0 ⟨g, o, c, rfl, hcap, hcc, hb2⟩; have HQ0_0 := Lib.hid (rq_below h0 hb2); have HQ2_0 := Lib.hid (rq_below h2 hb2); have d0_0 := (hb2.cell (p := ⟨w.heap.size, 0, none⟩) hlt).trans c0; have d2_0 := (hb2.cell (p := ⟨w.heap.size, 2, none⟩) hlt).trans c2; have hbb_0 := hB.trans (hb2.mono hB.size); have k1_0 := hcc (n - 1) (by omega); rw [HX1.out, HM1.out] at k1_0))
          go_quiet (fail)
          rename Nat => nq_0
          have HQ0_1 := Lib.hid (rq_drew HQ0_0.out nq_0)
          have HQ2_1 := Lib.hid (rq_drew HQ2_0.out nq_0)
          have d0_1 : (w2_0.drewN nq_0).cell? ⟨w.heap.size, 0, none⟩ = some (.slice A0 OS.length k0) := d0_0
          have d2_1 : (w2_0.drewN nq_0).cell? ⟨w.heap.size, 2, none⟩ = some (.slice A2 Ar.length k2) := d2_0
          have k1_1 : (w2_0.drewN nq_0).cell? ⟨g, o + m1, none⟩ = some (.string x1) := k1_0
          have hbb_1 := pw_drewN hbb_0 nq_0
          generalize w2_0.drewN nq_0 = w2_1 at *
          clear HQ0_0 HQ2_0 d0_0 d2_0 hbb_0 k1_0
          go_wp2
          go_quiet (fail)
          rename Nat => nq_1
          have HQ0_2 := Lib.hid (rq_drew HQ0_1.out nq_1)
          have HQ2_2 := Lib.hid (rq_drew HQ2_1.out nq_1)
          have d0_2 : (w2_1.drewN nq_1).cell? ⟨w.heap.size, 0, none⟩ = some (.slice A0 OS.length k0) := d0_1
          have d2_2 : (w2_1.drewN nq_1).cell? ⟨w.heap.size, 2, none⟩ = some (.slice A2 Ar.length k2) := d2_1
          have k1_2 : (w2_1.drewN nq_1).cell? ⟨g, o + m1, none⟩ = some (.string x1) := k1_1
          have hbb_2 := pw_drewN hbb_1 nq_1
          generalize w2_1.drewN nq_1 = w2_2 at *
          clear HQ0_1 HQ2_1 d0_1 d2_1 hbb_1 k1_1
          go_wp2
          go_ret3
          exact ⟨ret3 HS.out, hbb_2⟩
    · have g_1_m1 : decide ((1 : Int) < m1) = true := decide_eq_true (by omega)
      obtain ⟨m2, hm2n⟩ : ∃ m2, n - 2 = m2 := ⟨_, rfl⟩
      have HM2 := Lib.hid hm2n
      have b2 : (m2 : Int) < n := by omega
      have w_m1_1 : IntKind.i64.wrap ((m1 : Int) - 1) = (m2 : Int) := by rw [IntWalk.i64_in _ (by omega)]; omega
      have v_m1_1 : (m1 : Int) - 1 = (m2 : Int) := by omega
      have b21 : (m2 : Int) < m1 := by omega
      cases ha : inL x2 Ar with
      | false =>
        have HA := Lib.hid ha
        cases ho : inL x2 OS with
        | false =>
          have HO := Lib.hid ho
          have HS := Lib.hid (show R = (nul, nul, true) by rw [← HR.out]; unfold sufF; simp [hn1, hn2, ht, ha, ho])
          clear ha ho ht
          go_enter Tryd.func11, Tryd.ntmps11
          go_wp2
          go_loop [7] (fun i => ∃ k : Nat, i = .int .i64 k ∧ k ≤ s.size ∧ Hid (∀ b ∈ s.data.toList.take k, b ≠ 46)) (fun i => s.size - (intOf i).toNat)
          case atStart => exact ⟨0, rfl, Nat.zero_le _, Lib.hid (by simp)⟩
          case round =>
            obtain ⟨k, rfl, hk, HI⟩ := hrel
            by_cases hlk : k < s.size
            · have hki : (k : Int) < s.size := by omega
              by_cases h46 : (s[k].toNat : Int) = 46
              · have HE := Lib.hid (show s.extract 0 k = t by rw [← HT.out]; exact (cut_at s 46 k hlk HI.out (UInt8.toNat_inj.1 (by have : (46 : UInt8).toNat = 46 := rfl; omega))).symm)
                have n46 : ((s[k].toNat : Int) != 46) = false := by rw [h46]; rfl
                have hks : (k : Int) ≤ s.size := by omega
                go_wp2_with (first
                  | (go_at_call 27; rw [HE.out]; refine hcall.mono ?_; rintro e w2_0 ⟨g, o, c, rfl, hcap, hcc, hb2⟩; have HQ0_0 := Lib.hid (rq_below h0 hb2); have HQ2_0 := Lib.hid (rq_below h2 hb2); have d0_0 := (hb2.cell (p := ⟨w.heap.size, 0, none⟩) hlt).trans c0; have d2_0 := (hb2.cell (p := ⟨w.heap.size, 2, none⟩) hlt).trans c2; have hbb_0 := hB.trans (hb2.mono hB.size); have k1_0 := hcc (n - 1) (by omega); rw [HX1.out, HM1.out] at k1_0; have k2_0 := hcc (n - 2) (by omega); rw [HX2.out, HM2.out] at k2_0))
                go_quiet ((go_at_call 28; first | exact Calls.quiet_of_same (has14q x2 _ (rq_drew HQ2_0.out _) (by omega) HA.out) | exact Calls.quiet_of_same (has14q x2 _ HQ2_0.out (by omega) HA.out)))
                rename Nat => nq_0
                have HQ0_1 := Lib.hid (rq_drew HQ0_0.out nq_0)
                have HQ2_1 := Lib.hid (rq_drew HQ2_0.out nq_0)
                have d0_1 : (w2_0.drewN nq_0).cell? ⟨w.heap.size, 0, none⟩ = some (.slice A0 OS.length k0) := d0_0
                have d2_1 : (w2_0.drewN nq_0).cell? ⟨w.heap.size, 2, none⟩ = some (.slice A2 Ar.length k2) := d2_0
                have k1_1 : (w2_0.drewN nq_0).cell? ⟨g, o + m1, none⟩ = some (.string x1) := k1_0
                have k2_1 : (w2_0.drewN nq_0).cell? ⟨g, o + m2, none⟩ = some (.string x2) := k2_0
                have hbb_1 := pw_drewN hbb_0 nq_0
                generalize w2_0.drewN nq_0 = w2_1 at *
                clear HQ0_0 HQ2_0 d0_0 d2_0 hbb_0 k1_0 k2_0
                go_wp2
                go_quiet ((go_at_call 28; first | exact Calls.quiet_of_same (has14q x2 _ (rq_drew HQ0_1.out _) (by omega) HO.out) | exact Calls.quiet_of_same (has14q x2 _ HQ0_1.out (by omega) HO.out)))
                rename Nat => nq_1
                have HQ0_2 := Lib.hid (rq_drew HQ0_1.out nq_1)
                have HQ2_2 := Lib.hid (rq_drew HQ2_1.out nq_1)
                have d0_2 : (w2_1.drewN nq_1).cell? ⟨w.heap.size, 0, none⟩ = some (.slice A0 OS.length k0) := d0_1
                have d2_2 : (w2_1.drewN nq_1).cell? ⟨w.heap.size, 2, none⟩ = some (.slice A2 Ar.length k2) := d2_1
                have k1_2 : (w2_1.drewN nq_1).cell? ⟨g, o + m1, none⟩ = some (.string x1) := k1_1
                have k2_2 : (w2_1.drewN nq_1).cell? ⟨g, o + m2, none⟩ = some (.string x2) := k2_1
                have hbb_2 := pw_drewN hbb_1 nq_1
                generalize w2_1.drewN nq_1 = w2_2 at *
                clear HQ0_1 HQ2_1 d0_1 d2_1 hbb_1 k1_1 k2_1
                go_wp2
                go_ret3
                exact ⟨ret3 HS.out, hbb_2⟩
              · have HI2 := Lib.hid (take_ne s 46 k hlk HI.out (fun e => h46 (by rw [e]; rfl)))
                have n46 : ((s[k].toNat : Int) != 46) = true := by simpa using h46
                go_wp2_with (first | (exfalso; rename_i hu _; simp [undef] at hu; done))
                go_round
                case rel => exact ⟨k + 1, by go_num, by omega, HI2⟩
                case measure => simp [intOf] <;> omega
            · obtain rfl : k = s.size := by omega
              have HE := Lib.hid (show s = t by rw [← HT.out]; exact (cut_end s 46 HI.out).symm)
              go_wp2_with (first
                | (go_at_call 27; rw [HE.out]; refine hcall.mono ?_; rintro e w2_0 ⟨g, o, c, rfl, hcap, hcc, hb2⟩; have HQ0_0 := Lib.hid (rq_below h0 hb2); have HQ2_0 := Lib.hid (rq_below h2 hb2); have d0_0 := (hb2.cell (p := ⟨w.heap.size, 0, none⟩) hlt).trans c0; have d2_0 := (hb2.cell (p := ⟨w.heap.size, 2, none⟩) hlt).trans c2; have hbb_0 := hB.trans (hb2.mono hB.size); have k1_0 := hcc (n - 1) (by omega); rw [HX1.out, HM1.out] at k1_0; have k2_0 := hcc (n - 2) (by omega); rw [HX2.out, HM2.out] at k2_0))
              go_quiet ((go_at_call 28; first | exact Calls.quiet_of_same (has14q x2 _ (rq_drew HQ2_0.out _) (by omega) HA.out) | exact Calls.quiet_of_same (has14q x2 _ HQ2_0.out (by omega) HA.out)))
              rename Nat => nq_0
              have HQ0_1 := Lib.hid (rq_drew HQ0_0.out nq_0)
              have HQ2_1 := Lib.hid (rq_drew HQ2_0.out nq_0)
              have d0_1 : (w2_0.drewN nq_0).cell? ⟨w.heap.size, 0, none⟩ = some (.slice A0 OS.length k0) := d0_0
              have d2_1 : (w2_0.drewN nq_0).cell? ⟨w.heap.size, 2, none⟩ = some (.slice A2 Ar.length k2) := d2_0
              have k1_1 : (w2_0.drewN nq_0).cell? ⟨g, o + m1, none⟩ = some (.string x1) := k1_0
              have k2_1 : (w2_0.drewN nq_0).cell? ⟨g, o + m2, none⟩ = some (.string x2) := k2_0
              have hbb_1 := pw_drewN hbb_0 nq_0
              generalize w2_0.drewN nq_0 = w2_1 at *
              clear HQ0_0 HQ2_0 d0_0 d2_0 hbb_0 k1_0 k2_0
              go_wp2
              go_quiet ((go_at_call 28; first | exact Calls.quiet_of_same (has14q x2 _ (rq_drew HQ0_1.out _) (by omega) HO.out) | exact Calls.quiet_of_same (has14q x2 _ HQ0_1.out (by omega) HO.out)))
              rename Nat => nq_1
              have HQ0_2 := Lib.hid (rq_drew HQ0_1.out nq_1)
              have HQ2_2 := Lib.hid (rq_drew HQ2_1.out nq_1)
              have d0_2 : (w2_1.drewN nq_1).cell? ⟨w.heap.size, 0, none⟩ = some (.slice A0 OS.length k0) := d0_1
              have d2_2 : (w2_1.drewN nq_1).cell? ⟨w.heap.size, 2, none⟩ = some (.slice A2 Ar.length k2) := d2_1
              have k1_2 : (w2_1.drewN nq_1).cell? ⟨g, o + m1, none⟩ = some (.string x1) := k1_1
              have k2_2 : (w2_1.drewN nq_1).cell? ⟨g, o + m2, none⟩ = some (.string x2) := k2_1
              have hbb_2 := pw_drewN hbb_1 nq_1
              generalize w2_1.drewN nq_1 = w2_2 at *
              clear HQ0_1 HQ2_1 d0_1 d2_1 hbb_1 k1_1 k2_1
              go_wp2
              go_ret3
              exact ⟨ret3 HS.out, hbb_2⟩
        | true =>
          have HO := Lib.hid ho
          have HS := Lib.hid (show R = (x2, nul, true) by rw [← HR.out]; unfold sufF; simp [hn1, hn2, ht, ha, ho])
          clear ha ho ht
          go_enter Tryd.func11, Tryd.ntmps11
          go_wp2
          go_loop [7] (fun i => ∃ k : Nat, i = .int .i64 k ∧ k ≤ s.size ∧ Hid (∀ b ∈ s.data.toList.take k, b ≠ 46)) (fun i => s.size - (intOf i).toNat)
          case atStart => exact ⟨0, rfl, Nat.zero_le _, Lib.hid (by simp)⟩
          case round =>
            obtain ⟨k, rfl, hk, HI⟩ := hrel
            by_cases hlk : k < s.size
            · have hki : (k : Int) < s.size := by omega
              by_cases h46 : (s[k].toNat : Int) = 46
              · have HE := Lib.hid (show s.extract 0 k = t by rw [← HT.out]; exact (cut_at s 46 k hlk HI.out (UInt8.toNat_inj.1 (by have : (46 : UInt8).toNat = 46 := rfl; omega))).symm)
                have n46 : ((s[k].toNat : Int) != 46) = false := by rw [h46]; rfl
                have hks : (k : Int) ≤ s.size := by omega
                go_wp2_with (first
                  | (go_at_call 27; rw [HE.out]; refine hcall.mono ?_; rintro e w2_0 ⟨g, o, c, rfl, hcap, hcc, hb2⟩; have HQ0_0 := Lib.hid (rq_below h0 hb2); have HQ2_0 := Lib.hid (rq_below h2 hb2); have d0_0 := (hb2.cell (p := ⟨w.heap.size, 0, none⟩) hlt).trans c0; have d2_0 := (hb2.cell (p := ⟨w.heap.size, 2, none⟩) hlt).trans c2; have hbb_0 := hB.trans (hb2.mono hB.size); have k1_0 := hcc (n - 1) (by omega); rw [HX1.out, HM1.out] at k1_0; have k2_0 := hcc (n - 2) (by omega); rw [HX2.out, HM2.out] at k2_0))
                go_quiet ((go_at_call 28; first | exact Calls.quiet_of_same (has14q x2 _ (rq_drew HQ2_0.out _) (by omega) HA.out) | exact Calls.quiet_of_same (has14q x2 _ HQ2_0.out (by omega) HA.out)))
                rename Nat => nq_0
                have HQ0_1 := Lib.hid (rq_drew HQ0_0.out nq_0)
                have HQ2_1 := Lib.hid (rq_drew HQ2_0.out nq_0)
                have d0_1 : (w2_0.drewN nq_0).cell? ⟨w.heap.size, 0, none⟩ = some (.slice A0 OS.length k0) := d0_0
                have d2_1 : (w2_0.drewN nq_0).cell? ⟨w.heap.size, 2, none⟩ = some (.slice A2 Ar.length k2) := d2_0
                have k1_1 : (w2_0.drewN nq_0).cell? ⟨g, o + m1, none⟩ = some (.string x1) := k1_0
                have k2_1 : (w2_0.drewN nq_0).cell? ⟨g, o + m2, none⟩ = some (.string x2) := k2_0
                have hbb_1 := pw_drewN hbb_0 nq_0
                generalize w2_0.drewN nq_0 = w2_1 at *
                clear HQ0_0 HQ2_0 d0_0 d2_0 hbb_0 k1_0 k2_0
                go_wp2
                go_quiet ((go_at_call 28; first | exact Calls.quiet_of_same (has14q x2 _ (rq_drew HQ0_1.out _) (by omega) HO.out) | exact Calls.quiet_of_same (has14q x2 _ HQ0_1.out (by omega) HO.out)))
                rename Nat => nq_1
                have HQ0_2 := Lib.hid (rq_drew HQ0_1.out nq_1)
                have HQ2_2 := Lib.hid (rq_drew HQ2_1.out nq_1)
                have d0_2 : (w2_1.drewN nq_1).cell? ⟨w.heap.size, 0, none⟩ = some (.slice A0 OS.length k0) := d0_1
                have d2_2 : (w2_1.drewN nq_1).cell? ⟨w.heap.size, 2, none⟩ = some (.slice A2 Ar.length k2) := d2_1
                have k1_2 : (w2_1.drewN nq_1).cell? ⟨g, o + m1, none⟩ = some (.string x1) := k1_1
                have k2_2 : (w2_1.drewN nq_1).cell? ⟨g, o + m2, none⟩ = some (.string x2) := k2_1
                have hbb_2 := pw_drewN hbb_1 nq_1
                generalize w2_1.drewN nq_1 = w2_2 at *
                clear HQ0_1 HQ2_1 d0_1 d2_1 hbb_1 k1_1 k2_1
                go_wp2
                go_ret3
                exact ⟨ret3 HS.out, hbb_2⟩
              · have HI2 := Lib.hid (take_ne s 46 k hlk HI.out (fun e => h46 (by rw [e]; rfl)))
                have n46 : ((s[k].toNat : Int) != 46) = true := by simpa using h46
                go_wp2_with (first | (exfalso; rename_i hu _; simp [undef] at hu; done))
                go_round
                case rel => exact ⟨k + 1, by go_num, by omega, HI2⟩
                case measure => simp [intOf] <;> omega
            · obtain rfl : k = s.size := by omega
              have HE := Lib.hid (show s = t by rw [← HT.out]; exact (cut_end s 46 HI.out).symm)
              go_wp2_with (first
                | (go_at_call 27; rw [HE.out]; refine hcall.mono ?_; rintro e w2_0 ⟨g, o, c, rfl, hcap, hcc, hb2⟩; have HQ0_0 := Lib.hid (rq_below h0 hb2); have HQ2_0 := Lib.hid (rq_below h2 hb2); have d0_0 := (hb2.cell (p := ⟨w.heap.size, 0, none⟩) hlt).trans c0; have d2_0 := (hb2.cell (p := ⟨w.heap.size, 2, none⟩) hlt).trans c2; have hbb_0 := hB.trans (hb2.mono hB.size); have k1_0 := hcc (n - 1) (by omega); rw [HX1.out, HM1.out] at k1_0; have k2_0 := hcc (n - 2) (by omega); rw [HX2.out, HM2.out] at k2_0))
              go_quiet ((go_at_call 28; first | exact Calls.quiet_of_same (has14q x2 _ (rq_drew HQ2_0.out _) (by omega) HA.out) | exact Calls.quiet_of_same (has14q x2 _ HQ2_0.out (by omega) HA.out)))
              rename Nat => nq_0
              have HQ0_1 := Lib.hid (rq_drew HQ0_0.out nq_0)
              have HQ2_1 := Lib.hid (rq_drew HQ2_0.out nq_0)
              have d0_1 : (w2_0.drewN nq_0).cell? ⟨w.heap.size, 0, none⟩ = some (.slice A0 OS.length k0) := d0_0
              have d2_1 : (w2_0.drewN nq_0).cell? ⟨w.heap.size, 2, none⟩ = some (.slice A2 Ar.length k2) := d2_0
              have k1_1 : (w2_0.drewN nq_0).cell? ⟨g, o + m1, none⟩ = some (.string x1) := k1_0
              have k2_1 : (w2_0.drewN nq_0).cell? ⟨g, o + m2, none⟩ = some (.string x2) := k2_0
              have hbb_1 := pw_drewN hbb_0 nq_0
              generalize w2_0.drewN nq_0 = w2_1 at *
              clear HQ0_0 HQ2_0 d0_0 d2_0 hbb_0 k1_0 k2_0
              go_wp2
              go_quiet ((go_at_call 28; first | exact Calls.quiet_of_same (has14q x2 _ (rq_drew HQ0_1.out _) (by omega) HO.out) | exact Calls.quiet_of_same (has14q x2 _ HQ0_1.out (by omega) HO.out)))
              rename Nat => nq_1
              have HQ0_2 := Lib.hid (rq_drew HQ0_1.out nq_1)
              have HQ2_2 := Lib.hid (rq_drew HQ2_1.out nq_1)
              have d0_2 : (w2_1.drewN nq_1).cell? ⟨w.heap.size, 0, none⟩ = some (.slice A0 OS.length k0) := d0_1
              have d2_2 : (w2_1.drewN nq_1).cell? ⟨w.heap.size, 2, none⟩ = some (.slice A2 Ar.length k2) := d2_1
              have k1_2 : (w2_1.drewN nq_1).cell? ⟨g, o + m1, none⟩ = some (.string x1) := k1_1
              have k2_2 : (w2_1.drewN nq_1).cell? ⟨g, o + m2, none⟩ = some (.string x2) := k2_1
              have hbb_2 := pw_drewN hbb_1 nq_1
              generalize w2_1.drewN nq_1 = w2_2 at *
              clear HQ0_1 HQ2_1 d0_1 d2_1 hbb_1 k1_1 k2_1
              go_wp2
              go_ret3
              exact ⟨ret3 HS.out, hbb_2⟩
      | true =>
        have HA := Lib.hid ha
        by_cases hn3 : n ≤ 3
        · have g_2_m1 : decide ((2 : Int) < m1) = false := decide_eq_false (by omega)
          have HS := Lib.hid (show R = (nul, x2, true) by rw [← HR.out]; unfold sufF; simp [hn1, hn2, hn3, ht, ha])
          clear ha ht
          go_enter Tryd.func11, Tryd.ntmps11
          go_wp2
          go_loop [7] (fun i => ∃ k : Nat, i = .int .i64 k ∧ k ≤ s.size ∧ Hid (∀ b ∈ s.data.toList.take k, b ≠ 46)) (fun i => s.size - (intOf i).toNat)
          case atStart => exact ⟨0, rfl, Nat.zero_le _, Lib.hid (by simp)⟩
          case round =>
            obtain ⟨k, rfl, hk, HI⟩ := hrel
            by_cases hlk : k < s.size
            · have hki : (k : Int) < s.size := by omega
              by_cases h46 : (s[k].toNat : Int) = 46
              · have HE := Lib.hid (show s.extract 0 k = t by rw [← HT.out]; exact (cut_at s 46 k hlk HI.out (UInt8.toNat_inj.1 (by have : (46 : UInt8).toNat = 46 := rfl; omega))).symm)
                have n46 : ((s[k].toNat : Int) != 46) = false := by rw [h46]; rfl
                have hks : (k : Int) ≤ s.size := by omega
                go_wp2_with (first
                  | (go_at_call 27; rw [HE.out]; refine hcall.mono ?_; rintro e w2_0 ⟨g, o, c, rfl, hcap, hcc, hb2⟩; have HQ0_0 := Lib.hid (rq_below h0 hb2); have HQ2_0 := Lib.hid (rq_below h2 hb2); have d0_0 := (hb2.cell (p := ⟨w.heap.size, 0, none⟩) hlt).trans c0; have d2_0 := (hb2.cell (p := ⟨w.heap.size, 2, none⟩) hlt).trans c2; have hbb_0 := hB.trans (hb2.mono hB.size); have k1_0 := hcc (n - 1) (by omega); rw [HX1.out, HM1.out] at k1_0; have k2_0 := hcc (n - 2) (by omega); rw [HX2.out, HM2.out] at k2_0))
                go_quiet ((go_at_call 28; first | exact Calls.quiet_of_same (has14q x2 _ (rq_drew HQ2_0.out _) (by omega) HA.out) | exact Calls.quiet_of_same (has14q x2 _ HQ2_0.out (by omega) HA.out)))
                rename Nat => nq_0
                have HQ0_1 := Lib.hid (rq_drew HQ0_0.out nq_0)
                have HQ2_1 := Lib.hid (rq_drew HQ2_0.out nq_0)
                have d0_1 : (w2_0.drewN nq_0).cell? ⟨w.heap.size, 0, none⟩ = some (.slice A0 OS.length k0) := d0_0
                have d2_1 : (w2_0.drewN nq_0).cell? ⟨w.heap.size, 2, none⟩ = some (.slice A2 Ar.length k2) := d2_0
                have k1_1 : (w2_0.drewN nq_0).cell? ⟨g, o + m1, none⟩ = some (.string x1) := k1_0
                have k2_1 : (w2_0.drewN nq_0).cell? ⟨g, o + m2, none⟩ = some (.string x2) := k2_0
                have hbb_1 := pw_drewN hbb_0 nq_0
                generalize w2_0.drewN nq_0 = w2_1 at *
                clear HQ0_0 HQ2_0 d0_0 d2_0 hbb_0 k1_0 k2_0
                go_wp2
                go_quiet (fail)
                rename Nat => nq_1
                have HQ0_2 := Lib.hid (rq_drew HQ0_1.out nq_1)
                have HQ2_2 := Lib.hid (rq_drew HQ2_1.out nq_1)
                have d0_2 : (w2_1.drewN nq_1).cell? ⟨w.heap.size, 0, none⟩ = some (.slice A0 OS.length k0) := d0_1
                have d2_2 : (w2_1.drewN nq_1).cell? ⟨w.heap.size, 2, none⟩ = some (.slice A2 Ar.length k2) := d2_1
                have k1_2 : (w2_1.drewN nq_1).cell? ⟨g, o + m1, none⟩ = some (.string x1) := k1_1
                have k2_2 : (w2_1.drewN nq_1).cell? ⟨g, o + m2, none⟩ = some (.string x2) := k2_1
                have hbb_2 := pw_drewN hbb_1 nq_1
                generalize w2_1.drewN nq_1 = w2_2 at *
                clear HQ0_1 HQ2_1 d0_1 d2_1 hbb_1 k1_1 k2_1
                go_wp2
                go_quiet (fail)
                rename Nat => nq_2
                have HQ0_3 := Lib.hid (rq_drew HQ0_2.out nq_2)
                have HQ2_3 := Lib.hid (rq_drew HQ2_2.out nq_2)
                have d0_3 : (w2_2.drewN nq_2).cell? ⟨w.heap.size, 0, none⟩ = some (.slice A0 OS.length k0) := d0_2
                have d2_3 : (w2_2.drewN nq_2).cell? ⟨w.heap.size, 2, none⟩ = some (.slice A2 Ar.length k2) := d2_2
                have k1_3 : (w2_2.drewN nq_2).cell? ⟨g, o + m1, none⟩ = some (.string x1) := k1_2
                have k2_3 : (w2_2.drewN nq_2).cell? ⟨g, o + m2, none⟩ = some (.string x2) := k2_2
                have hbb_3 := pw_drewN hbb_2 nq_2
                generalize w2_2.drewN nq_2 = w2_3 at *
                clear HQ0_2 HQ2_2 d0_2 d2_2 hbb_2 k1_2 k2_2
                go_wp2
                go_ret3
                exact ⟨ret3 HS.out, hbb_3⟩
              · have HI2 := Lib.hid (take_ne s 46 k hlk HI.out (fun e => h46 (by rw [e]; rfl)))
                have n46 : ((s[k].toNat : Int) != 46) = true := by simpa using h46
                go_wp2_with (first | (exfalso; rename_i hu _; simp [undef] at hu; done))
                go_round
                case rel => exact ⟨k + 1, by go_num, by omega, HI2⟩
                case measure => simp [intOf] <;> omega
            · obtain rfl : k = s.size := by omega
              have HE := Lib.hid (show s = t by rw [← HT.out]; exact (cut_end s 46 HI.out).symm)
              go_wp2_with (first
                | (go_at_call 27; rw [HE.out]; refine hcall.mono ?_; rintro e w2_0 ⟨g, o, c, rfl, hcap, hcc, hb2⟩; have HQ0_0 := Lib.hid (rq_below h0 hb2); have HQ2_0 := Lib.hid (rq_below h2 hb2); have d0_0 := (hb2.cell (p := ⟨w.heap.size, 0, none⟩) hlt).trans c0; have d2_0 := (hb2.cell (p := ⟨w.heap.size, 2, none⟩) hlt).trans c2; have hbb_0 := hB.trans (hb2.mono hB.size); have k1_0 := hcc (n - 1) (by omega); rw [HX1.out, HM1.out] at k1_0; have k2_0 := hcc (n - 2) (by omega); rw [HX2.out, HM2.out] at k2_0))
              go_quiet ((go_at_call 28; first | exact Calls.quiet_of_same (has14q x2 _ (rq_drew HQ2_0.out _) (by omega) HA.out) | exact Calls.quiet_of_same (has14q x2 _ HQ2_0.out (by omega) HA.out)))
              rename Nat => nq_0
              have HQ0_1 := Lib.hid (rq_drew HQ0_0.out nq_0)
              have HQ2_1 := Lib.hid (rq_drew HQ2_0.out nq_0)
              have d0_1 : (w2_0.drewN nq_0).cell? ⟨w.heap.size, 0, none⟩ = some (.slice A0 OS.length k0) := d0_0
              have d2_1 : (w2_0.drewN nq_0).cell? ⟨w.heap.size, 2, none⟩ = some (.slice A2 Ar.length k2) := d2_0
              have k1_1 : (w2_0.drewN nq_0).cell? ⟨g, o + m1, none⟩ = some (.string x1) := k1_0
              have k2_1 : (w2_0.drewN nq_0).cell? ⟨g, o + m2, none⟩ = some (.string x2) := k2_0
              have hbb_1 := pw_drewN hbb_0 nq_0
              generalize w2_0.drewN nq_0 = w2_1 at *
              clear HQ0_0 HQ2_0 d0_0 d2_0 hbb_0 k1_0 k2_0
              go_wp2
              go_quiet (fail)
              rename Nat => nq_1
              have HQ0_2 := Lib.hid (rq_drew HQ0_1.out nq_1)
              have HQ2_2 := Lib.hid (rq_drew HQ2_1.out nq_1)
              have d0_2 : (w2_1.drewN nq_1).cell? ⟨w.heap.size, 0, none⟩ = some (.slice A0 OS.length k0) := d0_1
              have d2_2 : (w2_1.drewN nq_1).cell? ⟨w.heap.size, 2, none⟩ = some (.slice A2 Ar.length k2) := d2_1
              have k1_2 : (w2_1.drewN nq_1).cell? ⟨g, o + m1, none⟩ = some (.string x1) := k1_1
              have k2_2 : (w2_1.drewN nq_1).cell? ⟨g, o + m2, none⟩ = some (.string x2) := k2_1
              have hbb_2 := pw_drewN hbb_1 nq_1
              generalize w2_1.drewN nq_1 = w2_2 at *
              clear HQ0_1 HQ2_1 d0_1 d2_1 hbb_1 k1_1 k2_1
              go_wp2
              go_quiet (fail)
              rename Nat => nq_2
              have HQ0_3 := Lib.hid (rq_drew HQ0_2.out nq_2)
              have HQ2_3 := Lib.hid (rq_drew HQ2_2.out nq_2)
              have d0_3 : (w2_2.drewN nq_2).cell? ⟨w.heap.size, 0, none⟩ = some (.slice A0 OS.length k0) := d0_2
              have d2_3 : (w2_2.drewN nq_2).cell? ⟨w.heap.size, 2, none⟩ = some (.slice A2 Ar.length k2) := d2_2
              have k1_3 : (w2_2.drewN nq_2).cell? ⟨g, o + m1, none⟩ = some (.string x1) := k1_2
              have k2_3 : (w2_2.drewN nq_2).cell? ⟨g, o + m2, none⟩ = some (.string x2) := k2_2
              have hbb_3 := pw_drewN hbb_2 nq_2
              generalize w2_2.drewN nq_2 = w2_3 at *
              clear HQ0_2 HQ2_2 d0_2 d2_2 hbb_2 k1_2 k2_2
              go_wp2
              go_ret3
              exact ⟨ret3 HS.out, hbb_3⟩
        · have g_2_m1 : decide ((2 : Int) < m1) = true := decide_eq_true (by omega)
          obtain ⟨m3, hm3n⟩ : ∃ m3, n - 3 = m3 := ⟨_, rfl⟩
          have HM3 := Lib.hid hm3n
          have b3 : (m3 : Int) < n := by omega
          have w_m1_2 : IntKind.i64.wrap ((m1 : Int) - 2) = (m3 : Int) := by rw [IntWalk.i64_in _ (by omega)]; omega
          have v_m1_2 : (m1 : Int) - 2 = (m3 : Int) := by omega
          cases ho : inL x3 OS with
          | false =>
            have HO := Lib.hid ho
            have HS := Lib.hid (show R = (nul, x2, true) by rw [← HR.out]; unfold sufF; simp [hn1, hn2, hn3, ht, ha, ho])
            clear ha ho ht
            go_enter Tryd.func11, Tryd.ntmps11
            go_wp2
            go_loop [7] (fun i => ∃ k : Nat, i = .int .i64 k ∧ k ≤ s.size ∧ Hid (∀ b ∈ s.data.toList.take k, b ≠ 46)) (fun i => s.size - (intOf i).toNat)
            case atStart => exact ⟨0, rfl, Nat.zero_le _, Lib.hid (by simp)⟩
            case round =>
              obtain ⟨k, rfl, hk, HI⟩ := hrel
              by_cases hlk : k < s.size
              · have hki : (k : Int) < s.size := by omega
                by_cases h46 : (s[k].toNat : Int) = 46
                · have HE := Lib.hid (show s.extract 0 k = t by rw [← HT.out]; exact (cut_at s 46 k hlk HI.out (UInt8.toNat_inj.1 (by have : (46 : UInt8).toNat = 46 := rfl; omega))).symm)
                  have n46 : ((s[k].toNat : Int) != 46) = false := by rw [h46]; rfl
                  have hks : (k : Int) ≤ s.size := by omega
                  go_wp2_with (first
                    | (go_at_call 27; rw [HE.out]; refine hcall.mono ?_; rintro e w2_0 ⟨g, o, c, rfl, hcap, hcc, hb2⟩; have HQ0_0 := Lib.hid (rq_below h0 hb2); have HQ2_0 := Lib.hid (rq_below h2 hb2); have d0_0 := (hb2.cell (p := ⟨w.heap.size, 0, none⟩) hlt).trans c0; have d2_0 := (hb2.cell (p := ⟨w.heap.size, 2, none⟩) hlt).trans c2; have hbb_0 := hB.trans (hb2.mono hB.size); have k1_0 := hcc (n - 1) (by omega); rw [HX1.out, HM1.out] at k1_0; have k2_0 := hcc (n - 2) (by omega); rw [HX2.out, HM2.out] at k2_0; have k3_0 := hcc (n - 3) (by omega); rw [HX3.out, HM3.out] at k3_0))
                  go_quiet ((go_at_call 28; first | exact Calls.quiet_of_same (has14q x2 _ (rq_drew HQ2_0.out _) (by omega) HA.out) | exact Calls.quiet_of_same (has14q x2 _ HQ2_0.out (by omega) HA.out)))
                  rename Nat => nq_0
                  have HQ0_1 := Lib.hid (rq_drew HQ0_0.out nq_0)
                  have HQ2_1 := Lib.hid (rq_drew HQ2_0.out nq_0)
                  have d0_1 : (w2_0.drewN nq_0).cell? ⟨w.heap.size, 0, none⟩ = some (.slice A0 OS.length k0) := d0_0
                  have d2_1 : (w2_0.drewN nq_0).cell? ⟨w.heap.size, 2, none⟩ = some (.slice A2 Ar.length k2) := d2_0
                  have k1_1 : (w2_0.drewN nq_0).cell? ⟨g, o + m1, none⟩ = some (.string x1) := k1_0
                  have k2_1 : (w2_0.drewN nq_0).cell? ⟨g, o + m2, none⟩ = some (.string x2) := k2_0
                  have k3_1 : (w2_0.drewN nq_0).cell? ⟨g, o + m3, none⟩ = some (.string x3) := k3_0
                  have hbb_1 := pw_drewN hbb_0 nq_0
                  generalize w2_0.drewN nq_0 = w2_1 at *
                  clear HQ0_0 HQ2_0 d0_0 d2_0 hbb_0 k1_0 k2_0 k3_0
                  go_wp2
                  go_quiet ((go_at_call 28; first | exact Calls.quiet_of_same (has14q x3 _ (rq_drew HQ0_1.out _) (by omega) HO.out) | exact Calls.quiet_of_same (has14q x3 _ HQ0_1.out (by omega) HO.out)))
                  rename Nat => nq_1
                  have HQ0_2 := Lib.hid (rq_drew HQ0_1.out nq_1)
                  have HQ2_2 := Lib.hid (rq_drew HQ2_1.out nq_1)
                  have d0_2 : (w2_1.drewN nq_1).cell? ⟨w.heap.size, 0, none⟩ = some (.slice A0 OS.length k0) := d0_1
                  have d2_2 : (w2_1.drewN nq_1).cell? ⟨w.heap.size, 2, none⟩ = some (.slice A2 Ar.length k2) := d2_1
                  have k1_2 : (w2_1.drewN nq_1).cell? ⟨g, o + m1, none⟩ = some (.string x1) := k1_1
                  have k2_2 : (w2_1.drewN nq_1).cell? ⟨g, o + m2, none⟩ = some (.string x2) := k2_1
                  have k3_2 : (w2_1.drewN nq_1).cell? ⟨g, o + m3, none⟩ = some (.string x3) := k3_1
                  have hbb_2 := pw_drewN hbb_1 nq_1
                  generalize w2_1.drewN nq_1 = w2_2 at *
                  clear HQ0_1 HQ2_1 d0_1 d2_1 hbb_1 k1_1 k2_1 k3_1
                  go_wp2
                  go_quiet (fail)
                  rename Nat => nq_2
                  have HQ0_3 := Lib.hid (rq_drew HQ0_2.out nq_2)
                  have HQ2_3 := Lib.hid (rq_drew HQ2_2.out nq_2)
                  have d0_3 : (w2_2.drewN nq_2).cell? ⟨w.heap.size, 0, none⟩ = some (.slice A0 OS.length k0) := d0_2
                  have d2_3 : (w2_2.drewN nq_2).cell? ⟨w.heap.size, 2, none⟩ = some (.slice A2 Ar.length k2) := d2_2
                  have k1_3 : (w2_2.drewN nq_2).cell? ⟨g, o + m1, none⟩ = some (.string x1) := k1_2
                  have k2_3 : (w2_2.drewN nq_2).cell? ⟨g, o + m2, none⟩ = some (.string x2) := k2_2
                  have k3_3 : (w2_2.drewN nq_2).cell? ⟨g, o + m3, none⟩ = some (.string x3) := k3_2
                  have hbb_3 := pw_drewN hbb_2 nq_2
                  generalize w2_2.drewN nq_2 = w2_3 at *
                  clear HQ0_2 HQ2_2 d0_2 d2_2 hbb_2 k1_2 k2_2 k3_2
                  go_wp2
                  go_ret3
                  exact ⟨ret3 HS.out, hbb_3⟩
                · have HI2 := Lib.hid (take_ne s 46 k hlk HI.out (fun e => h46 (by rw [e]; rfl)))
                  have n46 : ((s[k].toNat : Int) != 46) = true := by simpa using h46
                  go_wp2_with (first | (exfalso; rename_i hu _; simp [undef] at hu; done))
                  go_round
                  case rel => exact ⟨k + 1, by go_num, by omega, HI2⟩
                  case measure => simp [intOf] <;> omega
              · obtain rfl : k = s.size := by omega
                have HE := Lib.hid (show s = t by rw [← HT.out]; exact (cut_end s 46 HI.out).symm)
                go_wp2_with (first
                  | (go_at_call 27; rw [HE.out]; refine hcall.mono ?_; rintro e w2_0 ⟨g, o, c, rfl, hcap, hcc, hb2⟩; have HQ0_0 := Lib.hid (rq_below h0 hb2); have HQ2_0 := Lib.hid (rq_below h2 hb2); have d0_0 := (hb2.cell (p := ⟨w.heap.size, 0, none⟩) hlt).trans c0; have d2_0 := (hb2.cell (p := ⟨w.heap.size, 2, none⟩) hlt).trans c2; have hbb_0 := hB.trans (hb2.mono hB.size); have k1_0 := hcc (n - 1) (by omega); rw [HX1.out, HM1.out] at k1_0; have k2_0 := hcc (n - 2) (by omega); rw [HX2.out, HM2.out] at k2_0; have k3_0 := hcc (n - 3) (by omega); rw [HX3.out, HM3.out] at k3_0))
                go_quiet ((go_at_call 28; first | exact Calls.quiet_of_same (has14q x2 _ (rq_drew HQ2_0.out _) (by omega) HA.out) | exact Calls.quiet_of_same (has14q x2 _ HQ2_0.out (by omega) HA.out)))
                rename Nat => nq_0
                have HQ0_1 := Lib.hid (rq_drew HQ0_0.out nq_0)
                have HQ2_1 := Lib.hid (rq_drew HQ2_0.out nq_0)
                have d0_1 : (w2_0.drewN nq_0).cell? ⟨w.heap.size, 0, none⟩ = some (.slice A0 OS.length k0) := d0_0
                have d2_1 : (w2_0.drewN nq_0).cell? ⟨w.heap.size, 2, none⟩ = some (.slice A2 Ar.length k2) := d2_0
                have k1_1 : (w2_0.drewN nq_0).cell? ⟨g, o + m1, none⟩ = some (.string x1) := k1_0
                have k2_1 : (w2_0.drewN nq_0).cell? ⟨g, o + m2, none⟩ = some (.string x2) := k2_0
                have k3_1 : (w2_0.drewN nq_0).cell? ⟨g, o + m3, none⟩ = some (.string x3) := k3_0
                have hbb_1 := pw_drewN hbb_0 nq_0
                generalize w2_0.drewN nq_0 = w2_1 at *
                clear HQ0_0 HQ2_0 d0_0 d2_0 hbb_0 k1_0 k2_0 k3_0
                go_wp2
                go_quiet ((go_at_call 28; first | exact Calls.quiet_of_same (has14q x3 _ (rq_drew HQ0_1.out _) (by omega) HO.out) | exact Calls.quiet_of_same (has14q x3 _ HQ0_1.out (by omega) HO.out)))
                rename Nat => nq_1
                have HQ0_2 := Lib.hid (rq_drew HQ0_1.out nq_1)
                have HQ2_2 := Lib.hid (rq_drew HQ2_1.out nq_1)
                have d0_2 : (w2_1.drewN nq_1).cell? ⟨w.heap.size, 0, none⟩ = some (.slice A0 OS.length k0) := d0_1
                have d2_2 : (w2_1.drewN nq_1).cell? ⟨w.heap.size, 2, none⟩ = some (.slice A2 Ar.length k2) := d2_1
                have k1_2 : (w2_1.drewN nq_1).cell? ⟨g, o + m1, none⟩ = some (.string x1) := k1_1
                have k2_2 : (w2_1.drewN nq_1).cell? ⟨g, o + m2, none⟩ = some (.string x2) := k2_1
                have k3_2 : (w2_1.drewN nq_1).cell? ⟨g, o + m3, none⟩ = some (.string x3) := k3_1
                have hbb_2 := pw_drewN hbb_1 nq_1
                generalize w2_1.drewN nq_1 = w2_2 at *
                clear HQ0_1 HQ2_1 d0_1 d2_1 hbb_1 k1_1 k2_1 k3_1
                go_wp2
                go_quiet (fail)
                rename Nat => nq_2
                have HQ0_3 := Lib.hid (rq_drew HQ0_2.out nq_2)
                have HQ2_3 := Lib.hid (rq_drew HQ2_2.out nq_2)
                have d0_3 : (w2_2.drewN nq_2).cell? ⟨w.heap.size, 0, none⟩ = some (.slice A0 OS.length k0) := d0_2
                have d2_3 : (w2_2.drewN nq_2).cell? ⟨w.heap.size, 2, none⟩ = some (.slice A2 Ar.length k2) := d2_2
                have k1_3 : (w2_2.drewN nq_2).cell? ⟨g, o + m1, none⟩ = some (.string x1) := k1_2
                have k2_3 : (w2_2.drewN nq_2).cell? ⟨g, o + m2, none⟩ = some (.string x2) := k2_2
                have k3_3 : (w2_2.drewN nq_2).cell? ⟨g, o + m3, none⟩ = some (.string x3) := k3_2
                have hbb_3 := pw_drewN hbb_2 nq_2
                generalize w2_2.drewN nq_2 = w2_3 at *
                clear HQ0_2 HQ2_2 d0_2 d2_2 hbb_2 k1_2 k2_2 k3_2
                go_wp2
                go_ret3
                exact ⟨ret3 HS.out, hbb_3⟩
          | true =>
            have HO := Lib.hid ho
            have HS := Lib.hid (show R = (x3, x2, true) by rw [← HR.out]; unfold sufF; simp [hn1, hn2, hn3, ht, ha, ho])
            clear ha ho ht
            go_enter Tryd.func11, Tryd.ntmps11
            go_wp2
            go_loop [7] (fun i => ∃ k : Nat, i = .int .i64 k ∧ k ≤ s.size ∧ Hid (∀ b ∈ s.data.toList.take k, b ≠ 46)) (fun i => s.size - (intOf i).toNat)
            case atStart => exact ⟨0, rfl, Nat.zero_le _, Lib.hid (by simp)⟩
            case round =>
              obtain ⟨k, rfl, hk, HI⟩ := hrel
              by_cases hlk : k < s.size
              · have hki : (k : Int) < s.size := by omega
                by_cases h46 : (s[k].toNat : Int) = 46
                · have HE := Lib.hid (show s.extract 0 k = t by rw [← HT.out]; exact (cut_at s 46 k hlk HI.out (UInt8.toNat_inj.1 (by have : (46 : UInt8).toNat = 46 := rfl; omega))).symm)
                  have n46 : ((s[k].toNat : Int) != 46) = false := by rw [h46]; rfl
                  have hks : (k : Int) ≤ s.size := by omega
                  go_wp2_with (first
                    | (go_at_call 27; rw [HE.out]; refine hcall.mono ?_; rintro e w2_0 ⟨g, o, c, rfl, hcap, hcc, hb2⟩; have HQ0_0 := Lib.hid (rq_below h0 hb2); have HQ2_0 := Lib.hid (rq_below h2 hb2); have d0_0 := (hb2.cell (p := ⟨w.heap.size, 0, none⟩) hlt).trans c0; have d2_0 := (hb2.cell (p := ⟨w.heap.size, 2, none⟩) hlt).trans c2; have hbb_0 := hB.trans (hb2.mono hB.size); have k1_0 := hcc (n - 1) (by omega); rw [HX1.out, HM1.out] at k1_0; have k2_0 := hcc (n - 2) (by omega); rw [HX2.out, HM2.out] at k2_0; have k3_0 := hcc (n - 3) (by omega); rw [HX3.out, HM3.out] at k3_0))
                  go_quiet ((go_at_call 28; first | exact Calls.quiet_of_same (has14q x2 _ (rq_drew HQ2_0.out _) (by omega) HA.out) | exact Calls.quiet_of_same (has14q x2 _ HQ2_0.out (by omega) HA.out)))
                  rename Nat => nq_0
                  have HQ0_1 := Lib.hid (rq_drew HQ0_0.out nq_0)
                  have HQ2_1 := Lib.hid (rq_drew HQ2_0.out nq_0)
                  have d0_1 : (w2_0.drewN nq_0).cell? ⟨w.heap.size, 0, none⟩ = some (.slice A0 OS.length k0) := d0_0
                  have d2_1 : (w2_0.drewN nq_0).cell? ⟨w.heap.size, 2, none⟩ = some (.slice A2 Ar.length k2) := d2_0
                  have k1_1 : (w2_0.drewN nq_0).cell? ⟨g, o + m1, none⟩ = some (.string x1) := k1_0
                  have k2_1 : (w2_0.drewN nq_0).cell? ⟨g, o + m2, none⟩ = some (.string x2) := k2_0
                  have k3_1 : (w2_0.drewN nq_0).cell? ⟨g, o + m3, none⟩ = some (.string x3) := k3_0
                  have hbb_1 := pw_drewN hbb_0 nq_0
                  generalize w2_0.drewN nq_0 = w2_1 at *
                  clear HQ0_0 HQ2_0 d0_0 d2_0 hbb_0 k1_0 k2_0 k3_0
                  go_wp2
                  go_quiet ((go_at_call 28; first | exact Calls.quiet_of_same (has14q x3 _ (rq_drew HQ0_1.out _) (by omega) HO.out) | exact Calls.quiet_of_same (has14q x3 _ HQ0_1.out (by omega) HO.out)))
                  rename Nat => nq_1
                  have HQ0_2 := Lib.hid (rq_drew HQ0_1.out nq_1)
                  have HQ2_2 := Lib.hid (rq_drew HQ2_1.out nq_1)
                  have d0_2 : (w2_1.drewN nq_1).cell? ⟨w.heap.size, 0, none⟩ = some (.slice A0 OS.length k0) := d0_1
                  have d2_2 : (w2_1.drewN nq_1).cell? ⟨w.heap.size, 2, none⟩ = some (.slice A2 Ar.length k2) := d2_1
                  have k1_2 : (w2_1.drewN nq_1).cell? ⟨g, o + m1, none⟩ = some (.string x1) := k1_1
                  have k2_2 : (w2_1.drewN nq_1).cell? ⟨g, o + m2, none⟩ = some (.string x2) := k2_1
                  have k3_2 : (w2_1.drewN nq_1).cell? ⟨g, o + m3, none⟩ = some (.string x3) := k3_1
                  have hbb_2 := pw_drewN hbb_1 nq_1
                  generalize w2_1.drewN nq_1 = w2_2 at *
                  clear HQ0_1 HQ2_1 d0_1 d2_1 hbb_1 k1_1 k2_1 k3_1
                  go_wp2
                  go_quiet (fail)
                  rename Nat => nq_2
                  have HQ0_3 := Lib.hid (rq_drew HQ0_2.out nq_2)
                  have HQ2_3 := Lib.hid (rq_drew HQ2_2.out nq_2)
                  have d0_3 : (w2_2.drewN nq_2).cell? ⟨w.heap.size, 0, none⟩ = some (.slice A0 OS.length k0) := d0_2
                  have d2_3 : (w2_2.drewN nq_2).cell? ⟨w.heap.size, 2, none⟩ = some (.slice A2 Ar.length k2) := d2_2
                  have k1_3 : (w2_2.drewN nq_2).cell? ⟨g, o + m1, none⟩ = some (.string x1) := k1_2
                  have k2_3 : (w2_2.drewN nq_2).cell? ⟨g, o + m2, none⟩ = some (.string x2) := k2_2
                  have k3_3 : (w2_2.drewN nq_2).cell? ⟨g, o + m3, none⟩ = some (.string x3) := k3_2
                  have hbb_3 := pw_drewN hbb_2 nq_2
                  generalize w2_2.drewN nq_2 = w2_3 at *
                  clear HQ0_2 HQ2_2 d0_2 d2_2 hbb_2 k1_2 k2_2 k3_2
                  go_wp2
                  go_ret3
                  exact ⟨ret3 HS.out, hbb_3⟩
                · have HI2 := Lib.hid (take_ne s 46 k hlk HI.out (fun e => h46 (by rw [e]; rfl)))
                  have n46 : ((s[k].toNat : Int) != 46) = true := by simpa using h46
                  go_wp2_with (first | (exfalso; rename_i hu _; simp [undef] at hu; done))
                  go_round
                  case rel => exact ⟨k + 1, by go_num, by omega, HI2⟩
                  case measure => simp [intOf] <;> omega
              · obtain rfl : k = s.size := by omega
                have HE := Lib.hid (show s = t by rw [← HT.out]; exact (cut_end s 46 HI.out).symm)
                go_wp2_with (first
                  | (go_at_call 27; rw [HE.out]; refine hcall.mono ?_; rintro e w2_0 ⟨g, o, c, rfl, hcap, hcc, hb2⟩; have HQ0_0 := Lib.hid (rq_below h0 hb2); have HQ2_0 := Lib.hid (rq_below h2 hb2); have d0_0 := (hb2.cell (p := ⟨w.heap.size, 0, none⟩) hlt).trans c0; have d2_0 := (hb2.cell (p := ⟨w.heap.size, 2, none⟩) hlt).trans c2; have hbb_0 := hB.trans (hb2.mono hB.size); have k1_0 := hcc (n - 1) (by omega); rw [HX1.out, HM1.out] at k1_0; have k2_0 := hcc (n - 2) (by omega); rw [HX2.out, HM2.out] at k2_0; have k3_0 := hcc (n - 3) (by omega); rw [HX3.out, HM3.out] at k3_0))
                go_quiet ((go_at_call 28; first | exact Calls.quiet_of_same (has14q x2 _ (rq_drew HQ2_0.out _) (by omega) HA.out) | exact Calls.quiet_of_same (has14q x2 _ HQ2_0.out (by omega) HA.out)))
                rename Nat => nq_0
                have HQ0_1 := Lib.hid (rq_drew HQ0_0.out nq_0)
                have HQ2_1 := Lib.hid (rq_drew HQ2_0.out nq_0)
                have d0_1 : (w2_0.drewN nq_0).cell? ⟨w.heap.size, 0, none⟩ = some (.slice A0 OS.length k0) := d0_0
                have d2_1 : (w2_0.drewN nq_0).cell? ⟨w.heap.size, 2, none⟩ = some (.slice A2 Ar.length k2) := d2_0
                have k1_1 : (w2_0.drewN nq_0).cell? ⟨g, o + m1, none⟩ = some (.string x1) := k1_0
                have k2_1 : (w2_0.drewN nq_0).cell? ⟨g, o + m2, none⟩ = some (.string x2) := k2_0
                have k3_1 : (w2_0.drewN nq_0).cell? ⟨g, o + m3, none⟩ = some (.string x3) := k3_0
                have hbb_1 := pw_drewN hbb_0 nq_0
                generalize w2_0.drewN nq_0 = w2_1 at *
                clear HQ0_0 HQ2_0 d0_0 d2_0 hbb_0 k1_0 k2_0 k3_0
                go_wp2
                go_quiet ((go_at_call 28; first | exact Calls.quiet_of_same (has14q x3 _ (rq_drew HQ0_1.out _) (by omega) HO.out) | exact Calls.quiet_of_same (has14q x3 _ HQ0_1.out (by omega) HO.out)))
                rename Nat => nq_1
                have HQ0_2 := Lib.hid (rq_drew HQ0_1.out nq_1)
                have HQ2_2 := Lib.hid (rq_drew HQ2_1.out nq_1)
                have d0_2 : (w2_1.drewN nq_1).cell? ⟨w.heap.size, 0, none⟩ = some (.slice A0 OS.length k0) := d0_1
                have d2_2 : (w2_1.drewN nq_1).cell? ⟨w.heap.size, 2, none⟩ = some (.slice A2 Ar.length k2) := d2_1
                have k1_2 : (w2_1.drewN nq_1).cell? ⟨g, o + m1, none⟩ = some (.string x1) := k1_1
                have k2_2 : (w2_1.drewN nq_1).cell? ⟨g, o + m2, none⟩ = some (.string x2) := k2_1
                have k3_2 : (w2_1.drewN nq_1).cell? ⟨g, o + m3, none⟩ = some (.string x3) := k3_1
                have hbb_2 := pw_drewN hbb_1 nq_1
                generalize w2_1.drewN nq_1 = w2_2 at *
                clear HQ0_1 HQ2_1 d0_1 d2_1 hbb_1 k1_1 k2_1 k3_1
                go_wp2
                go_quiet (fail)
                rename Nat => nq_2
                have HQ0_3 := Lib.hid (rq_drew HQ0_2.out nq_2)
                have HQ2_3 := Lib.hid (rq_drew HQ2_2.out nq_2)
                have d0_3 : (w2_2.drewN nq_2).cell? ⟨w.heap.size, 0, none⟩ = some (.slice A0 OS.length k0) := d0_2
                have d2_3 : (w2_2.drewN nq_2).cell? ⟨w.heap.size, 2, none⟩ = some (.slice A2 Ar.length k2) := d2_2
                have k1_3 : (w2_2.drewN nq_2).cell? ⟨g, o + m1, none⟩ = some (.string x1) := k1_2
                have k2_3 : (w2_2.drewN nq_2).cell? ⟨g, o + m2, none⟩ = some (.string x2) := k2_2
                have k3_3 : (w2_2.drewN nq_2).cell? ⟨g, o + m3, none⟩ = some (.string x3) := k3_2
                have hbb_3 := pw_drewN hbb_2 nq_2
                generalize w2_2.drewN nq_2 = w2_3 at *
                clear HQ0_2 HQ2_2 d0_2 d2_2 hbb_2 k1_2 k2_2 k3_2
                go_wp2
                go_ret3
                exact ⟨ret3 HS.out, hbb_3⟩
end Go.Proofs.YtcfmaeonginefaaDoor.Suffix14
