/- graftbedlaw07.CacheHighest: true. -/
import Derived.Test.YtcfmaeonginefaaGreatDoorSame7
import Derived.Test.YtcfmaeonginefaaGreatDoorVersR
import Derived.Test.YtcfmaeonginefaaGreatDoorMods
namespace Go.Proofs.YtcfmaeonginefaaGreatDoor.High
open Go Go.RowKit Go.Shelf Go.Proofs.YtcfmaeonginefaaGreatDoor.Seq Go.Proofs.YtcfmaeonginefaaGreatDoor.Made Go.Proofs.YtcfmaeonginefaaGreatDoor.Order3 Go.Proofs.YtcfmaeonginefaaGreatDoor.Cmp Go.Proofs.YtcfmaeonginefaaGreatDoor.Row7 Go.Proofs.YtcfmaeonginefaaGreatDoor.Own7 Go.Proofs.YtcfmaeonginefaaGreatDoor.Vers Go.Proofs.YtcfmaeonginefaaGreatDoor.At7 Go.Proofs.YtcfmaeonginefaaGreatDoor.Order7 Go.Proofs.YtcfmaeonginefaaGreatDoor.Heavy Go.Proofs.YtcfmaeonginefaaGreatDoor.Sort7 Go.Proofs.YtcfmaeonginefaaGreatDoor.VersC Go.Proofs.YtcfmaeonginefaaGreatDoor.VersR Go.Proofs.YtcfmaeonginefaaGreatDoor.Same7 Go.Proofs.YtcfmaeonginefaaGreatDoor.Mods
set_option linter.unusedSimpArgs false
set_option linter.unusedVariables false

theorem at_other {p u v : ByteArray} (h : u ≠ v) : ((atB p u).toList == (atB p v).toList) = false := by
  cases hq : ((atB p u).toList == (atB p v).toList) with
  | false => rfl
  | true =>
    exfalso
    apply h
    have e := ba_eq hq
    unfold atB at e
    have hs : ∀ x : ByteArray, x.toList.isEmpty = true → x = ⟨#[]⟩ := fun x hx => ba_eq (by
      have := List.isEmpty_iff.1 hx
      rw [this]; decide +kernel)
    by_cases hu : u.toList.isEmpty = true
    · by_cases hv : v.toList.isEmpty = true
      · rw [hs u hu, hs v hv]
      · rw [if_pos hu, if_neg hv] at e
        have := congrArg ByteArray.size e
        rw [ByteArray.size_append, ByteArray.size_append] at this
        have h1 : (⟨#[64]⟩ : ByteArray).size = 1 := rfl
        omega
    · by_cases hv : v.toList.isEmpty = true
      · rw [if_neg hu, if_pos hv] at e
        have := congrArg ByteArray.size e
        rw [ByteArray.size_append, ByteArray.size_append] at this
        have h1 : (⟨#[64]⟩ : ByteArray).size = 1 := rfl
        omega
      · rw [if_neg hu, if_neg hv] at e
        have e2 := congrArg (fun x : ByteArray => x.data.toList) e
        simp only [ByteArray.data_append, Array.toList_append, List.append_cancel_left_eq] at e2
        obtain ⟨⟨a⟩⟩ := u
        obtain ⟨⟨b⟩⟩ := v
        simp only [] at e2
        rw [e2]

set_option maxRecDepth 100000 in
set_option maxHeartbeats 8000000 in
theorem highest {v : Value} {es : List En} (path : ByteArray) (w : World) (h : RE w v es) : Calls Tryz.prog 4 #[v, .string path] w fun e w' => e = .returned (.bool true) ∧ Below w.heap.size w w' := by
  have HE := Lib.hid h
  obtain ⟨⟨A0, c0, rfl, -⟩, -⟩ := h
  by_cases hp : (1024 : Int) < path.size
  · go_enter Tryz.func4, Tryz.ntmps4
    go_wp2_with (first
      | (exfalso; rename_i hu _; simp [undef] at hu; done)
      | (go_at_call 15; refine (heavy _ HE.out).mono ?_; rintro e w1 ⟨b, rfl, hbf, hb1⟩; rcases b with _ | _)
      | (go_at_call 8; refine (shown _).mono ?_; rintro e w2 ⟨rfl, hb2⟩))
    all_goals
      go_ret
      exact ⟨rfl, hb1.trans (hb2.mono hb1.size)⟩
  · have hps : path.size ≤ 1048576 := by omega
    have hpd : decide ((1024 : Int) < path.size) = false := by simp; omega
    obtain ⟨V, hV⟩ : ∃ V, verL path (es.map En.mod) = V := ⟨_, rfl⟩
    have HV := Lib.hid hV
    have HRISE := Lib.hid (show V.Pairwise fun u v => modB (path, u) (path, v) < 0 by rw [← hV]; exact ver_rise path _)
    have HSZ := Lib.hid (show Fits es → V.length ≤ 1048577 ∧ ∀ v ∈ V, v.size ≤ 1048576 from fun hf => by
      rw [← hV]
      refine ⟨Nat.le_trans (ver_len path _) (by have := hf.1; simp; omega), fun v hv => ?_⟩
      obtain ⟨e, he, hev⟩ := List.mem_map.1 ((ver_mem path v _).1 hv)
      have := (hf.2 e he).2.1
      cases hev
      omega)
    clear hV
    go_enter Tryz.func4, Tryz.ntmps4
    go_wp2_with (first
      | (exfalso; rename_i hu _; simp [undef] at hu; done)
      | (go_at_call 15; refine (heavy _ HE.out).mono ?_; rintro e w1 ⟨b, rfl, hbf, hb1⟩; have HBF := Lib.hid hbf; clear hbf; rcases b with _ | _)
      | (go_at_call 8; refine (shown _).mono ?_; rintro e w2 ⟨rfl, hb2⟩; have hb12 := hb1.trans (hb2.mono hb1.size))
      | (go_at_call 16; refine (versions _ path (re_below HE.out hb12) (HBF.out trivial)).mono ?_; rw [HV.out]; rintro e w3 ⟨v3, rfl, hr3, hb3⟩; have hb13 := hb12.trans (hb3.mono hb12.size))
      | (go_at_call 18; refine (versions7 _ path (re_below HE.out hb13) (HBF.out trivial)).mono ?_; rw [HV.out]; rintro e w4 ⟨v4, rfl, hr4, hb4⟩; have hb14 := hb13.trans (hb4.mono hb13.size); have hr5 := rt_below hr3 hb4)
      | (go_at_call 17; refine (same _ hr5 hr4 (HSZ.out (HBF.out trivial)).1).mono ?_; rintro e w5 ⟨rfl, hb5⟩; have hb15 := hb14.trans (hb5.mono hb14.size); have hr6 := rt_below hr5 hb5; have hV2 := HSZ.out (HBF.out trivial)))
    · obtain ⟨hV2l, hV2s⟩ := hV2
      obtain ⟨A, c, rfl, hA, hc, hm, hr⟩ := hr6
      have HR := Lib.hid hr
      obtain ⟨n, hnn⟩ : ∃ n, V.length = n := ⟨_, rfl⟩
      rw [hnn] at hc hm hV2l ⊢
      have HN := Lib.hid hnn
      have HVS := Lib.hid hV2s
      clear hnn hr hV2s hr3 hr4 hr5 hb1 hb2 hb3 hb4 hb5 hb12 hb13 hb14
      go_loopw [6, 7, 8] (fun v6 v7 v8 W => ∃ (j : Nat), v6 = .int .i64 (j + 1) ∧ (j + 1 ≤ n ∨ j = 0) ∧ Below w5.heap.size w5 W) (fun v6 v7 v8 W => n + 1 - (intOf v6).toNat)
      case atStart => exact ⟨0, rfl, .inr rfl, Below.refl _ _⟩
      case round =>
        obtain ⟨j, rfl, hj, hB⟩ := hrel
        by_cases hlt : j + 1 < n
        · have hl1 : j + 1 < V.length := by rw [HN.out]; exact hlt
          have hl0 : j < V.length := by omega
          obtain ⟨g, o, hg, c1⟩ := HR.out (j + 1) hl1
          subst hg
          obtain ⟨g', o', hg', c0⟩ := HR.out j hl0
          cases hg'
          have c1 := (hB.cell (p := ⟨g, o + (j + 1), none⟩) (cell_lt c1)).trans c1
          have c0 := (hB.cell (p := ⟨g, o + j, none⟩) (cell_lt c0)).trans c0
          have hlt2 := List.pairwise_iff_getElem.1 HRISE.out j (j + 1) hl0 hl1 (by omega)
          have hs1 := HVS.out V[j + 1] (List.getElem_mem hl1)
          have hs0 := HVS.out V[j] (List.getElem_mem hl0)
          generalize V[j + 1] = y at *
          generalize V[j] = x at *
          have hbd := cmp_mod.bd (path, x) (path, y)
          have HO1 := Lib.hid (show modB (path, x) (path, y) = -1 by omega)
          have HO2 := Lib.hid (show modB (path, y) (path, x) = 1 by have := cmp_mod.anti (path, x) (path, y); omega)
          have hxy : x ≠ y := fun e => by
            rw [e, cmp_mod.refl] at hlt2
            omega
          have hne := at_other (p := path) hxy
          obtain ⟨ax, hax⟩ : ∃ a, atB path x = a := ⟨_, rfl⟩
          obtain ⟨ay, hay⟩ : ∃ a, atB path y = a := ⟨_, rfl⟩
          rw [hax, hay] at hne
          have HAX := Lib.hid hax
          have HAY := Lib.hid hay
          have hw1 : IntKind.i64.wrap ((j : Int) + 1 - 1) = (j : Int) := by rw [show (j : Int) + 1 - 1 = j by omega]; exact IntWalk.i64_in _ (by omega)
          have ht1 : ((j : Int) + 1).toNat = j + 1 := by omega
          have hi2 : (j : Int) + 1 < n := by omega
          have hi3 : (j : Int) < n := by omega
          have h0 := m4_new wr path x path y 23
          have h0d := m4_drew h0 1
          have c1' := cellK c1 ((Below.refl wr.heap.size wr).alloc (Nat.le_refl _) (.cells #[.string path, .string x] 23))
          clear hax hay hlt2 hbd hxy
          go_wp2_with (first | (exfalso; rename_i hu _; simp [undef] at hu; done))
          go_region_held3 (fun w' => w'.cell? ⟨wr.heap.size, 0, none⟩ = some (.string path) ∧ w'.cell? ⟨wr.heap.size, 1, none⟩ = some (.string x) ∧ w'.cell? ⟨wr.heap.size + 1, 0, none⟩ = some (.string path) ∧ w'.cell? ⟨wr.heap.size + 1, 1, none⟩ = some (.string y) ∧ Below wr.heap.size wr w' ∧ wr.heap.size + 1 < w'.heap.size)
            (first
              | assumption
              | exact m4_keep ‹_› hb6
              | exact h0d)
            (first
              | (go_at_call 9; first | ((with_reducible refine (order path x path y hps hs0 hps hs1 _).mono ?_); rw [HO1.out]; rintro e6 w6 ⟨rfl, hb6⟩) | ((with_reducible refine (order path y path x hps hs1 hps hs0 _).mono ?_); rw [HO2.out]; rintro e6 w6 ⟨rfl, hb6⟩))
              | (go_at_call 10; first | ((with_reducible refine (at_ path x hps hs0 _).mono ?_); rw [HAX.out]; rintro e6 w6 ⟨rfl, hb6⟩) | ((with_reducible refine (at_ path y hps hs1 _).mono ?_); rw [HAY.out]; rintro e6 w6 ⟨rfl, hb6⟩)))
          have k6 : M4 wr path x path y w6 := by assumption
          have hB6 : Below w5.heap.size w5 w6 := hB.trans (k6.2.2.2.2.1.mono hB.size)
          go_wp2_with (first | (exfalso; rename_i hu _; simp [undef] at hu; done))
          exact ⟨⟨j + 1, by go_num, .inl (by omega), hB6⟩, by simp [intOf]; omega⟩
        · have hjn : (n : Int) ≤ (j : Int) + 1 := by omega
          have hbf : Below w.heap.size w wr := hb15.trans (hB.mono hb15.size)
          go_wp2_with (first | (exfalso; rename_i hu _; simp [undef] at hu; done))
          go_ret
          exact ⟨rfl, hbf⟩
    · go_ret
      exact ⟨rfl, hb12⟩
end Go.Proofs.YtcfmaeonginefaaGreatDoor.High
