/- tags.Suffix: what it answers. -/
import Derived.Test.YtcfmaeonginefaaDoorSplit
import Derived.Test.YtcfmaeonginefaaDoorCheck
import Derived.Test.YtcfmaeonginefaaDoorRefImp
import Derived.Deep.QuietTactic
import Derived.BigQuiet
namespace Go.Proofs.YtcfmaeonginefaaDoor.Suffix
open Go Go.RowKit Go.Shelf Go.Proofs.YtcfmaeonginefaaDoor.Cut Go.Proofs.YtcfmaeonginefaaDoor.Made Go.Proofs.YtcfmaeonginefaaDoor.Base Go.Proofs.YtcfmaeonginefaaDoor.RefMade Go.Proofs.YtcfmaeonginefaaDoor.Sets Go.Proofs.YtcfmaeonginefaaDoor.Of Go.Proofs.YtcfmaeonginefaaDoor.Has Go.Proofs.YtcfmaeonginefaaDoor.Check Go.Proofs.YtcfmaeonginefaaDoor.Split
set_option linter.unusedSimpArgs false
set_option linter.unusedVariables false

abbrev nul : ByteArray := ⟨#[]⟩
def testS (x : ByteArray) : Bool := x.toList == [116, 101, 115, 116]
/-- What the last parts of a name tell. -/
def sufF (OS Ar : List ByteArray) (n : Nat) (x1 x2 x3 : ByteArray) : ByteArray × ByteArray × Bool :=
  if n ≤ 1 then (nul, nul, false) else
  if testS x1 = true then
    if n ≤ 2 then (nul, nul, true) else
    if inL x2 Ar = true then
      if n ≤ 3 then (nul, x2, true) else if inL x3 OS = true then (x3, x2, true) else (nul, x2, true)
    else if inL x2 OS = true then (x2, nul, true) else (nul, nul, true)
  else
    if inL x1 Ar = true then
      if n ≤ 2 then (nul, x1, false) else if inL x2 OS = true then (x2, x1, false) else (nul, x1, false)
    else if inL x1 OS = true then (x1, nul, false) else (nul, nul, false)
def sufL (OS Ar l : List ByteArray) : ByteArray × ByteArray × Bool := sufF OS Ar l.length (l.getD (l.length - 1) nul) (l.getD (l.length - 2) nul) (l.getD (l.length - 3) nul)
def sufR (OS Ar : List ByteArray) (s : ByteArray) : ByteArray × ByteArray × Bool := sufL OS Ar (splB 95 (cutB s 46).1)
theorem ret3 {R : ByteArray × ByteArray × Bool} {a b : ByteArray} {c : Bool} (h : R = (a, b, c)) : Ending.returned (.tuple #[.string a, .string b, .bool c]) = .returned (.tuple #[.string R.1, .string R.2.1, .bool R.2.2]) := by rw [h]
theorem rq_cellD {w : World} {g k c : Nat} {xs : List ByteArray} (h : Rq w (.slice (some ⟨g, 0, none⟩) k c) xs) (i : Nat) (hi : i < xs.length) : w.cell? ⟨g, i, none⟩ = some (.string (xs.getD i nul)) := by
  obtain ⟨A, c', he, hA, hc, hr⟩ := h
  obtain ⟨g', o, hg, hcell⟩ := hr i hi
  cases he
  cases hg
  rw [Nat.zero_add] at hcell
  rw [hcell]
  simp [List.getD, hi]
theorem containsq {v : Value} {xs : List ByteArray} (s : ByteArray) {r : Bool} (w : World) (h : Rq w v xs) (hn : xs.length ≤ 1048577) (hr : inL s xs = r) :
    Calls Tryd.prog 26 #[v, .string s] w fun e w' => e = .returned (.bool r) ∧ w' = w := (contains s w h hn).mono fun e w' k => ⟨by rw [k.1, hr], k.2.symm⟩
theorem rq_drew {w : World} {v : Value} {xs : List ByteArray} (h : Rq w v xs) (n : Nat) : Rq (w.drewN n) v xs := rq_below h (pw_drewN (Below.refl _ _) n)

set_option maxRecDepth 100000 in
set_option maxHeartbeats 16000000 in
theorem suffix (v0 v1 v2 v3 v4 v5 : Value) (OS Un Ar St Re Li : List ByteArray) (s : ByteArray) (m : Int) (w : World) (h0 : Rq w v0 OS) (h1 : Rq w v1 Un) (h2 : Rq w v2 Ar) (h3 : Rq w v3 St) (h4 : Rq w v4 Re) (h5 : Rq w v5 Li)
    (f0 : Fit OS) (f2 : Fit Ar) (hs : s.size ≤ 1048576) (hm : w.cell? ⟨0, 0, none⟩ = some (.int .i64 m)) :
    Calls Tryd.prog 10 #[.agg #[v0, v1, v2, v3, v4, v5], .string s] w fun e w' => e = .returned (.tuple #[.string (sufR OS Ar s).1, .string (sufR OS Ar s).2.1, .bool (sufR OS Ar s).2.2]) ∧ Below w.heap.size w w' := by
  have hB := below_alloc w (.cells #[v0, v1, v2, v3, v4, v5] 24)
  have hsz := alloc_size w (.cells #[v0, v1, v2, v3, v4, v5] 24)
  have hsq : ∀ q, ((w.alloc (.cells #[v0, v1, v2, v3, v4, v5] 24)).drewN q).heap.size = w.heap.size + 1 := fun q => hsz
  have hlt : w.heap.size < (w.alloc (.cells #[v0, v1, v2, v3, v4, v5] 24)).heap.size := by rw [hsz]; exact Nat.lt_succ_self _
  have c0 := cell_new w #[v0, v1, v2, v3, v4, v5] 24 0 v0 rfl
  have c2 := cell_new w #[v0, v1, v2, v3, v4, v5] 24 2 v2 rfl
  have hm1 := (hB.cell (p := ⟨0, 0, none⟩) (cell_lt hm)).trans hm
  replace h0 := rq_below h0 hB
  replace h2 := rq_below h2 hB
  obtain ⟨A0, k0, e0, _⟩ := id h0
  obtain ⟨A2, k2, e2, _⟩ := id h2
  subst e0 e2
  have z0 := f0.1
  have z2 := f2.1
  obtain ⟨t, ht⟩ : ∃ t, (cutB s 46).1 = t := ⟨_, rfl⟩
  have hts : t.size ≤ 1048576 := by rw [← ht]; exact Nat.le_trans (cutB_size1 s 46) hs
  have HT := Lib.hid ht
  obtain ⟨l, hl⟩ : ∃ l, splB 95 t = l := ⟨_, rfl⟩
  have hl1 : 0 < l.length := by rw [← hl]; exact spl_pos 95 t
  have hl2 : l.length ≤ 1048577 := by rw [← hl]; unfold splB; rw [List.length_map]; have := spl_length 95 t.data.toList; have := lenS t; omega
  have HL := Lib.hid hl
  obtain ⟨R, hR⟩ : ∃ R, sufR OS Ar s = R := ⟨_, rfl⟩
  rw [hR]
  unfold sufR sufL at hR
  rw [ht, hl] at hR
  clear ht hl
  obtain ⟨n, hn⟩ : ∃ n, l.length = n := ⟨_, rfl⟩
  rw [hn] at hR hl1 hl2
  have HN := Lib.hid hn
  obtain ⟨x1, hx1⟩ : ∃ x, l.getD (n - 1) nul = x := ⟨_, rfl⟩
  obtain ⟨x2, hx2⟩ : ∃ x, l.getD (n - 2) nul = x := ⟨_, rfl⟩
  obtain ⟨x3, hx3⟩ : ∃ x, l.getD (n - 3) nul = x := ⟨_, rfl⟩
  rw [hx1, hx2, hx3] at hR
  have HX1 := Lib.hid hx1
  have HX2 := Lib.hid hx2
  have HX3 := Lib.hid hx3
  have HR := Lib.hid hR
  clear hR hx1 hx2 hx3 hn
  by_cases hn1 : n ≤ 1
  · obtain rfl : n = 1 := by omega
    have HS := Lib.hid (show R = (nul, nul, false) by rw [← HR.out]; unfold sufF; simp [])
    go_enter Tryd.func10, Tryd.ntmps10
    go_wp2_with (first
      | (exfalso; rename_i hu _; simp [undef] at hu; done)
      | (go_at_call 25; refine (splitT t 95 m _ hts (by first | exact hm1 | simpa using hm1)).mono ?_; rw [HL.out, HN.out]; rintro e w2 ⟨rfl, hq2, hb2⟩; rw [hsq] at hq2; have hb12 := (pw_drewN (Below.refl _ (w.alloc (.cells #[.slice A0 OS.length k0, v1, .slice A2 Ar.length k2, v3, v4, v5] 24))) q).trans (hb2.mono (Nat.le_of_eq rfl)); have HQ0 := Lib.hid (rq_below h0 hb12); have HQ2 := Lib.hid (rq_below h2 hb12); have d0 := (hb12.cell (p := ⟨w.heap.size, 0, none⟩) hlt).trans c0; have d2 := (hb12.cell (p := ⟨w.heap.size, 2, none⟩) hlt).trans c2)
      | (go_at_call 24; refine (cut s 46 _ (by omega)).mono ?_; rw [HT.out]; rintro e w1 ⟨rfl, q, rfl⟩))
    go_quiet (fail)
    rename_i nq
    have HQ0' := Lib.hid (rq_drew HQ0.out nq)
    have d0' : (w2.drewN nq).cell? ⟨w.heap.size, 0, none⟩ = some (.slice A0 OS.length k0) := d0
    have hbb := pw_drewN (hB.trans (hb12.mono hB.size)) nq
    generalize w2.drewN nq = W at *
    go_wp2
    go_quiet (fail)
    go_wp2
    go_ret3
    exact ⟨ret3 HS.out, pw_drewN hbb _⟩
  have hg1 : (1 : Int) < n := by omega
  have hd1 : decide ((1 : Int) < n) = true := decide_eq_true hg1
  obtain ⟨m1, hm1n⟩ : ∃ m1, n - 1 = m1 := ⟨_, rfl⟩
  have HM1 := Lib.hid hm1n
  have w1a : IntKind.i64.wrap ((n : Int) - 1) = (m1 : Int) := by rw [IntWalk.i64_in _ (by omega)]; omega
  have w1b : (n : Int) - 1 = (m1 : Int) := by omega
  have b1 : (m1 : Int) < n := by omega
  cases ht : testS x1 with
  | false =>
    have ht' := ht
    unfold testS at ht'
    cases ha : inL x1 Ar with
    | false =>
      have HA := Lib.hid ha
      cases ho : inL x1 OS with
      | false =>
        have HO := Lib.hid ho
        have HS := Lib.hid (show R = (nul, nul, false) by rw [← HR.out]; unfold sufF; simp [hn1, ht, ha, ho])
        clear ha ho ht
        go_enter Tryd.func10, Tryd.ntmps10
        go_wp2_with (first
          | (exfalso; rename_i hu _; simp [undef] at hu; done)
          | (go_at_call 25; refine (splitT t 95 m _ hts (by first | exact hm1 | simpa using hm1)).mono ?_; rw [HL.out, HN.out]; rintro e w2 ⟨rfl, hq2, hb2⟩; rw [hsq] at hq2; have hb12 := (pw_drewN (Below.refl _ (w.alloc (.cells #[.slice A0 OS.length k0, v1, .slice A2 Ar.length k2, v3, v4, v5] 24))) q).trans (hb2.mono (Nat.le_of_eq rfl)); have HQ0 := Lib.hid (rq_below h0 hb12); have HQ2 := Lib.hid (rq_below h2 hb12); have d0 := (hb12.cell (p := ⟨w.heap.size, 0, none⟩) hlt).trans c0; have d2 := (hb12.cell (p := ⟨w.heap.size, 2, none⟩) hlt).trans c2; have k1 := rq_cellD hq2 (n - 1) (by rw [HN.out]; omega); rw [HX1.out, HM1.out] at k1)
          | (go_at_call 24; refine (cut s 46 _ (by omega)).mono ?_; rw [HT.out]; rintro e w1 ⟨rfl, q, rfl⟩))
        go_quiet ((go_at_call 26; first | exact Calls.quiet_of_same (containsq x1 _ (rq_drew HQ2.out _) (by omega) HA.out) | exact Calls.quiet_of_same (containsq x1 _ (rq_drew (rq_drew HQ2.out _) _) (by omega) HA.out)))
        rename_i nq
        have HQ0' := Lib.hid (rq_drew HQ0.out nq)
        have d0' : (w2.drewN nq).cell? ⟨w.heap.size, 0, none⟩ = some (.slice A0 OS.length k0) := d0
        have k1' : (w2.drewN nq).cell? ⟨w.heap.size + 1, m1, none⟩ = some (.string x1) := k1
        have hbb := pw_drewN (hB.trans (hb12.mono hB.size)) nq
        generalize w2.drewN nq = W at *
        go_wp2
        go_quiet ((go_at_call 26; first | exact Calls.quiet_of_same (containsq x1 _ (rq_drew HQ0'.out _) (by omega) HO.out) | exact Calls.quiet_of_same (containsq x1 _ (rq_drew (rq_drew HQ0'.out _) _) (by omega) HO.out)))
        go_wp2
        go_ret3
        exact ⟨ret3 HS.out, pw_drewN hbb _⟩
      | true =>
        have HO := Lib.hid ho
        have HS := Lib.hid (show R = (x1, nul, false) by rw [← HR.out]; unfold sufF; simp [hn1, ht, ha, ho])
        clear ha ho ht
        go_enter Tryd.func10, Tryd.ntmps10
        go_wp2_with (first
          | (exfalso; rename_i hu _; simp [undef] at hu; done)
          | (go_at_call 25; refine (splitT t 95 m _ hts (by first | exact hm1 | simpa using hm1)).mono ?_; rw [HL.out, HN.out]; rintro e w2 ⟨rfl, hq2, hb2⟩; rw [hsq] at hq2; have hb12 := (pw_drewN (Below.refl _ (w.alloc (.cells #[.slice A0 OS.length k0, v1, .slice A2 Ar.length k2, v3, v4, v5] 24))) q).trans (hb2.mono (Nat.le_of_eq rfl)); have HQ0 := Lib.hid (rq_below h0 hb12); have HQ2 := Lib.hid (rq_below h2 hb12); have d0 := (hb12.cell (p := ⟨w.heap.size, 0, none⟩) hlt).trans c0; have d2 := (hb12.cell (p := ⟨w.heap.size, 2, none⟩) hlt).trans c2; have k1 := rq_cellD hq2 (n - 1) (by rw [HN.out]; omega); rw [HX1.out, HM1.out] at k1)
          | (go_at_call 24; refine (cut s 46 _ (by omega)).mono ?_; rw [HT.out]; rintro e w1 ⟨rfl, q, rfl⟩))
        go_quiet ((go_at_call 26; first | exact Calls.quiet_of_same (containsq x1 _ (rq_drew HQ2.out _) (by omega) HA.out) | exact Calls.quiet_of_same (containsq x1 _ (rq_drew (rq_drew HQ2.out _) _) (by omega) HA.out)))
        rename_i nq
        have HQ0' := Lib.hid (rq_drew HQ0.out nq)
        have d0' : (w2.drewN nq).cell? ⟨w.heap.size, 0, none⟩ = some (.slice A0 OS.length k0) := d0
        have k1' : (w2.drewN nq).cell? ⟨w.heap.size + 1, m1, none⟩ = some (.string x1) := k1
        have hbb := pw_drewN (hB.trans (hb12.mono hB.size)) nq
        generalize w2.drewN nq = W at *
        go_wp2
        go_quiet ((go_at_call 26; first | exact Calls.quiet_of_same (containsq x1 _ (rq_drew HQ0'.out _) (by omega) HO.out) | exact Calls.quiet_of_same (containsq x1 _ (rq_drew (rq_drew HQ0'.out _) _) (by omega) HO.out)))
        go_wp2
        go_ret3
        exact ⟨ret3 HS.out, pw_drewN hbb _⟩
    | true =>
      have HA := Lib.hid ha
      by_cases hn2 : n ≤ 2
      · have hd2 : decide ((1 : Int) < m1) = false := decide_eq_false (by omega)
        have HS := Lib.hid (show R = (nul, x1, false) by rw [← HR.out]; unfold sufF; simp [hn1, hn2, ht, ha])
        clear ha ht
        go_enter Tryd.func10, Tryd.ntmps10
        go_wp2_with (first
          | (exfalso; rename_i hu _; simp [undef] at hu; done)
          | (go_at_call 25; refine (splitT t 95 m _ hts (by first | exact hm1 | simpa using hm1)).mono ?_; rw [HL.out, HN.out]; rintro e w2 ⟨rfl, hq2, hb2⟩; rw [hsq] at hq2; have hb12 := (pw_drewN (Below.refl _ (w.alloc (.cells #[.slice A0 OS.length k0, v1, .slice A2 Ar.length k2, v3, v4, v5] 24))) q).trans (hb2.mono (Nat.le_of_eq rfl)); have HQ0 := Lib.hid (rq_below h0 hb12); have HQ2 := Lib.hid (rq_below h2 hb12); have d0 := (hb12.cell (p := ⟨w.heap.size, 0, none⟩) hlt).trans c0; have d2 := (hb12.cell (p := ⟨w.heap.size, 2, none⟩) hlt).trans c2; have k1 := rq_cellD hq2 (n - 1) (by rw [HN.out]; omega); rw [HX1.out, HM1.out] at k1)
          | (go_at_call 24; refine (cut s 46 _ (by omega)).mono ?_; rw [HT.out]; rintro e w1 ⟨rfl, q, rfl⟩))
        go_quiet ((go_at_call 26; first | exact Calls.quiet_of_same (containsq x1 _ (rq_drew HQ2.out _) (by omega) HA.out) | exact Calls.quiet_of_same (containsq x1 _ (rq_drew (rq_drew HQ2.out _) _) (by omega) HA.out)))
        rename_i nq
        have HQ0' := Lib.hid (rq_drew HQ0.out nq)
        have d0' : (w2.drewN nq).cell? ⟨w.heap.size, 0, none⟩ = some (.slice A0 OS.length k0) := d0
        have k1' : (w2.drewN nq).cell? ⟨w.heap.size + 1, m1, none⟩ = some (.string x1) := k1
        have hbb := pw_drewN (hB.trans (hb12.mono hB.size)) nq
        generalize w2.drewN nq = W at *
        go_wp2
        go_quiet (fail)
        go_wp2
        go_ret3
        exact ⟨ret3 HS.out, pw_drewN hbb _⟩
      · have hd2 : decide ((1 : Int) < m1) = true := decide_eq_true (by omega)
        obtain ⟨m2, hm2n⟩ : ∃ m2, n - 2 = m2 := ⟨_, rfl⟩
        have HM2 := Lib.hid hm2n
        have w2a : IntKind.i64.wrap ((m1 : Int) - 1) = (m2 : Int) := by rw [IntWalk.i64_in _ (by omega)]; omega
        have w2b : (m1 : Int) - 1 = (m2 : Int) := by omega
        have b2 : (m2 : Int) < n := by omega
        cases ho : inL x2 OS with
        | false =>
          have HO := Lib.hid ho
          have HS := Lib.hid (show R = (nul, x1, false) by rw [← HR.out]; unfold sufF; simp [hn1, hn2, ht, ha, ho])
          clear ha ho ht
          go_enter Tryd.func10, Tryd.ntmps10
          go_wp2_with (first
            | (exfalso; rename_i hu _; simp [undef] at hu; done)
            | (go_at_call 25; refine (splitT t 95 m _ hts (by first | exact hm1 | simpa using hm1)).mono ?_; rw [HL.out, HN.out]; rintro e w2 ⟨rfl, hq2, hb2⟩; rw [hsq] at hq2; have hb12 := (pw_drewN (Below.refl _ (w.alloc (.cells #[.slice A0 OS.length k0, v1, .slice A2 Ar.length k2, v3, v4, v5] 24))) q).trans (hb2.mono (Nat.le_of_eq rfl)); have HQ0 := Lib.hid (rq_below h0 hb12); have HQ2 := Lib.hid (rq_below h2 hb12); have d0 := (hb12.cell (p := ⟨w.heap.size, 0, none⟩) hlt).trans c0; have d2 := (hb12.cell (p := ⟨w.heap.size, 2, none⟩) hlt).trans c2; have k1 := rq_cellD hq2 (n - 1) (by rw [HN.out]; omega); rw [HX1.out, HM1.out] at k1; have k2 := rq_cellD hq2 (n - 2) (by rw [HN.out]; omega); rw [HX2.out, HM2.out] at k2)
            | (go_at_call 24; refine (cut s 46 _ (by omega)).mono ?_; rw [HT.out]; rintro e w1 ⟨rfl, q, rfl⟩))
          go_quiet ((go_at_call 26; first | exact Calls.quiet_of_same (containsq x1 _ (rq_drew HQ2.out _) (by omega) HA.out) | exact Calls.quiet_of_same (containsq x1 _ (rq_drew (rq_drew HQ2.out _) _) (by omega) HA.out)))
          rename_i nq
          have HQ0' := Lib.hid (rq_drew HQ0.out nq)
          have d0' : (w2.drewN nq).cell? ⟨w.heap.size, 0, none⟩ = some (.slice A0 OS.length k0) := d0
          have k1' : (w2.drewN nq).cell? ⟨w.heap.size + 1, m1, none⟩ = some (.string x1) := k1
          have k2' : (w2.drewN nq).cell? ⟨w.heap.size + 1, m2, none⟩ = some (.string x2) := k2
          have hbb := pw_drewN (hB.trans (hb12.mono hB.size)) nq
          generalize w2.drewN nq = W at *
          go_wp2
          go_quiet ((go_at_call 26; first | exact Calls.quiet_of_same (containsq x2 _ (rq_drew HQ0'.out _) (by omega) HO.out) | exact Calls.quiet_of_same (containsq x2 _ (rq_drew (rq_drew HQ0'.out _) _) (by omega) HO.out)))
          go_wp2
          go_ret3
          exact ⟨ret3 HS.out, pw_drewN hbb _⟩
        | true =>
          have HO := Lib.hid ho
          have HS := Lib.hid (show R = (x2, x1, false) by rw [← HR.out]; unfold sufF; simp [hn1, hn2, ht, ha, ho])
          clear ha ho ht
          go_enter Tryd.func10, Tryd.ntmps10
          go_wp2_with (first
            | (exfalso; rename_i hu _; simp [undef] at hu; done)
            | (go_at_call 25; refine (splitT t 95 m _ hts (by first | exact hm1 | simpa using hm1)).mono ?_; rw [HL.out, HN.out]; rintro e w2 ⟨rfl, hq2, hb2⟩; rw [hsq] at hq2; have hb12 := (pw_drewN (Below.refl _ (w.alloc (.cells #[.slice A0 OS.length k0, v1, .slice A2 Ar.length k2, v3, v4, v5] 24))) q).trans (hb2.mono (Nat.le_of_eq rfl)); have HQ0 := Lib.hid (rq_below h0 hb12); have HQ2 := Lib.hid (rq_below h2 hb12); have d0 := (hb12.cell (p := ⟨w.heap.size, 0, none⟩) hlt).trans c0; have d2 := (hb12.cell (p := ⟨w.heap.size, 2, none⟩) hlt).trans c2; have k1 := rq_cellD hq2 (n - 1) (by rw [HN.out]; omega); rw [HX1.out, HM1.out] at k1; have k2 := rq_cellD hq2 (n - 2) (by rw [HN.out]; omega); rw [HX2.out, HM2.out] at k2)
            | (go_at_call 24; refine (cut s 46 _ (by omega)).mono ?_; rw [HT.out]; rintro e w1 ⟨rfl, q, rfl⟩))
          go_quiet ((go_at_call 26; first | exact Calls.quiet_of_same (containsq x1 _ (rq_drew HQ2.out _) (by omega) HA.out) | exact Calls.quiet_of_same (containsq x1 _ (rq_drew (rq_drew HQ2.out _) _) (by omega) HA.out)))
          rename_i nq
          have HQ0' := Lib.hid (rq_drew HQ0.out nq)
          have d0' : (w2.drewN nq).cell? ⟨w.heap.size, 0, none⟩ = some (.slice A0 OS.length k0) := d0
          have k1' : (w2.drewN nq).cell? ⟨w.heap.size + 1, m1, none⟩ = some (.string x1) := k1
          have k2' : (w2.drewN nq).cell? ⟨w.heap.size + 1, m2, none⟩ = some (.string x2) := k2
          have hbb := pw_drewN (hB.trans (hb12.mono hB.size)) nq
          generalize w2.drewN nq = W at *
          go_wp2
          go_quiet ((go_at_call 26; first | exact Calls.quiet_of_same (containsq x2 _ (rq_drew HQ0'.out _) (by omega) HO.out) | exact Calls.quiet_of_same (containsq x2 _ (rq_drew (rq_drew HQ0'.out _) _) (by omega) HO.out)))
          go_wp2
          go_ret3
          exact ⟨ret3 HS.out, pw_drewN hbb _⟩
  | true =>
    have ht' := ht
    unfold testS at ht'
    by_cases hn2 : n ≤ 2
    · have hd2 : decide ((1 : Int) < m1) = false := decide_eq_false (by omega)
      have HS := Lib.hid (show R = (nul, nul, true) by rw [← HR.out]; unfold sufF; simp [hn1, hn2, ht])
      clear ht
      go_enter Tryd.func10, Tryd.ntmps10
      go_wp2_with (first
        | (exfalso; rename_i hu _; simp [undef] at hu; done)
        | (go_at_call 25; refine (splitT t 95 m _ hts (by first | exact hm1 | simpa using hm1)).mono ?_; rw [HL.out, HN.out]; rintro e w2 ⟨rfl, hq2, hb2⟩; rw [hsq] at hq2; have hb12 := (pw_drewN (Below.refl _ (w.alloc (.cells #[.slice A0 OS.length k0, v1, .slice A2 Ar.length k2, v3, v4, v5] 24))) q).trans (hb2.mono (Nat.le_of_eq rfl)); have HQ0 := Lib.hid (rq_below h0 hb12); have HQ2 := Lib.hid (rq_below h2 hb12); have d0 := (hb12.cell (p := ⟨w.heap.size, 0, none⟩) hlt).trans c0; have d2 := (hb12.cell (p := ⟨w.heap.size, 2, none⟩) hlt).trans c2; have k1 := rq_cellD hq2 (n - 1) (by rw [HN.out]; omega); rw [HX1.out, HM1.out] at k1)
        | (go_at_call 24; refine (cut s 46 _ (by omega)).mono ?_; rw [HT.out]; rintro e w1 ⟨rfl, q, rfl⟩))
      go_quiet (fail)
      rename_i nq
      have HQ0' := Lib.hid (rq_drew HQ0.out nq)
      have d0' : (w2.drewN nq).cell? ⟨w.heap.size, 0, none⟩ = some (.slice A0 OS.length k0) := d0
      have k1' : (w2.drewN nq).cell? ⟨w.heap.size + 1, m1, none⟩ = some (.string x1) := k1
      have hbb := pw_drewN (hB.trans (hb12.mono hB.size)) nq
      generalize w2.drewN nq = W at *
      go_wp2
      go_quiet (fail)
      go_wp2
      go_ret3
      exact ⟨ret3 HS.out, pw_drewN hbb _⟩
    · have hd2 : decide ((1 : Int) < m1) = true := decide_eq_true (by omega)
      obtain ⟨m2, hm2n⟩ : ∃ m2, n - 2 = m2 := ⟨_, rfl⟩
      have HM2 := Lib.hid hm2n
      have w2a : IntKind.i64.wrap ((m1 : Int) - 1) = (m2 : Int) := by rw [IntWalk.i64_in _ (by omega)]; omega
      have w2b : (m1 : Int) - 1 = (m2 : Int) := by omega
      have b2 : (m2 : Int) < n := by omega
      cases ha : inL x2 Ar with
      | false =>
        have HA := Lib.hid ha
        cases ho : inL x2 OS with
        | false =>
          have HO := Lib.hid ho
          have HS := Lib.hid (show R = (nul, nul, true) by rw [← HR.out]; unfold sufF; simp [hn1, hn2, ht, ha, ho])
          clear ha ho ht
          go_enter Tryd.func10, Tryd.ntmps10
          go_wp2_with (first
            | (exfalso; rename_i hu _; simp [undef] at hu; done)
            | (go_at_call 25; refine (splitT t 95 m _ hts (by first | exact hm1 | simpa using hm1)).mono ?_; rw [HL.out, HN.out]; rintro e w2 ⟨rfl, hq2, hb2⟩; rw [hsq] at hq2; have hb12 := (pw_drewN (Below.refl _ (w.alloc (.cells #[.slice A0 OS.length k0, v1, .slice A2 Ar.length k2, v3, v4, v5] 24))) q).trans (hb2.mono (Nat.le_of_eq rfl)); have HQ0 := Lib.hid (rq_below h0 hb12); have HQ2 := Lib.hid (rq_below h2 hb12); have d0 := (hb12.cell (p := ⟨w.heap.size, 0, none⟩) hlt).trans c0; have d2 := (hb12.cell (p := ⟨w.heap.size, 2, none⟩) hlt).trans c2; have k1 := rq_cellD hq2 (n - 1) (by rw [HN.out]; omega); rw [HX1.out, HM1.out] at k1; have k2 := rq_cellD hq2 (n - 2) (by rw [HN.out]; omega); rw [HX2.out, HM2.out] at k2)
            | (go_at_call 24; refine (cut s 46 _ (by omega)).mono ?_; rw [HT.out]; rintro e w1 ⟨rfl, q, rfl⟩))
          go_quiet ((go_at_call 26; first | exact Calls.quiet_of_same (containsq x2 _ (rq_drew HQ2.out _) (by omega) HA.out) | exact Calls.quiet_of_same (containsq x2 _ (rq_drew (rq_drew HQ2.out _) _) (by omega) HA.out)))
          rename_i nq
          have HQ0' := Lib.hid (rq_drew HQ0.out nq)
          have d0' : (w2.drewN nq).cell? ⟨w.heap.size, 0, none⟩ = some (.slice A0 OS.length k0) := d0
          have k1' : (w2.drewN nq).cell? ⟨w.heap.size + 1, m1, none⟩ = some (.string x1) := k1
          have k2' : (w2.drewN nq).cell? ⟨w.heap.size + 1, m2, none⟩ = some (.string x2) := k2
          have hbb := pw_drewN (hB.trans (hb12.mono hB.size)) nq
          generalize w2.drewN nq = W at *
          go_wp2
          go_quiet ((go_at_call 26; first | exact Calls.quiet_of_same (containsq x2 _ (rq_drew HQ0'.out _) (by omega) HO.out) | exact Calls.quiet_of_same (containsq x2 _ (rq_drew (rq_drew HQ0'.out _) _) (by omega) HO.out)))
          go_wp2
          go_ret3
          exact ⟨ret3 HS.out, pw_drewN hbb _⟩
        | true =>
          have HO := Lib.hid ho
          have HS := Lib.hid (show R = (x2, nul, true) by rw [← HR.out]; unfold sufF; simp [hn1, hn2, ht, ha, ho])
          clear ha ho ht
          go_enter Tryd.func10, Tryd.ntmps10
          go_wp2_with (first
            | (exfalso; rename_i hu _; simp [undef] at hu; done)
            | (go_at_call 25; refine (splitT t 95 m _ hts (by first | exact hm1 | simpa using hm1)).mono ?_; rw [HL.out, HN.out]; rintro e w2 ⟨rfl, hq2, hb2⟩; rw [hsq] at hq2; have hb12 := (pw_drewN (Below.refl _ (w.alloc (.cells #[.slice A0 OS.length k0, v1, .slice A2 Ar.length k2, v3, v4, v5] 24))) q).trans (hb2.mono (Nat.le_of_eq rfl)); have HQ0 := Lib.hid (rq_below h0 hb12); have HQ2 := Lib.hid (rq_below h2 hb12); have d0 := (hb12.cell (p := ⟨w.heap.size, 0, none⟩) hlt).trans c0; have d2 := (hb12.cell (p := ⟨w.heap.size, 2, none⟩) hlt).trans c2; have k1 := rq_cellD hq2 (n - 1) (by rw [HN.out]; omega); rw [HX1.out, HM1.out] at k1; have k2 := rq_cellD hq2 (n - 2) (by rw [HN.out]; omega); rw [HX2.out, HM2.out] at k2)
            | (go_at_call 24; refine (cut s 46 _ (by omega)).mono ?_; rw [HT.out]; rintro e w1 ⟨rfl, q, rfl⟩))
          go_quiet ((go_at_call 26; first | exact Calls.quiet_of_same (containsq x2 _ (rq_drew HQ2.out _) (by omega) HA.out) | exact Calls.quiet_of_same (containsq x2 _ (rq_drew (rq_drew HQ2.out _) _) (by omega) HA.out)))
          rename_i nq
          have HQ0' := Lib.hid (rq_drew HQ0.out nq)
          have d0' : (w2.drewN nq).cell? ⟨w.heap.size, 0, none⟩ = some (.slice A0 OS.length k0) := d0
          have k1' : (w2.drewN nq).cell? ⟨w.heap.size + 1, m1, none⟩ = some (.string x1) := k1
          have k2' : (w2.drewN nq).cell? ⟨w.heap.size + 1, m2, none⟩ = some (.string x2) := k2
          have hbb := pw_drewN (hB.trans (hb12.mono hB.size)) nq
          generalize w2.drewN nq = W at *
          go_wp2
          go_quiet ((go_at_call 26; first | exact Calls.quiet_of_same (containsq x2 _ (rq_drew HQ0'.out _) (by omega) HO.out) | exact Calls.quiet_of_same (containsq x2 _ (rq_drew (rq_drew HQ0'.out _) _) (by omega) HO.out)))
          go_wp2
          go_ret3
          exact ⟨ret3 HS.out, pw_drewN hbb _⟩
      | true =>
        have HA := Lib.hid ha
        by_cases hn3 : n ≤ 3
        · have hd3 : decide ((1 : Int) < m2) = false := decide_eq_false (by omega)
          have HS := Lib.hid (show R = (nul, x2, true) by rw [← HR.out]; unfold sufF; simp [hn1, hn2, hn3, ht, ha])
          clear ha ht
          go_enter Tryd.func10, Tryd.ntmps10
          go_wp2_with (first
            | (exfalso; rename_i hu _; simp [undef] at hu; done)
            | (go_at_call 25; refine (splitT t 95 m _ hts (by first | exact hm1 | simpa using hm1)).mono ?_; rw [HL.out, HN.out]; rintro e w2 ⟨rfl, hq2, hb2⟩; rw [hsq] at hq2; have hb12 := (pw_drewN (Below.refl _ (w.alloc (.cells #[.slice A0 OS.length k0, v1, .slice A2 Ar.length k2, v3, v4, v5] 24))) q).trans (hb2.mono (Nat.le_of_eq rfl)); have HQ0 := Lib.hid (rq_below h0 hb12); have HQ2 := Lib.hid (rq_below h2 hb12); have d0 := (hb12.cell (p := ⟨w.heap.size, 0, none⟩) hlt).trans c0; have d2 := (hb12.cell (p := ⟨w.heap.size, 2, none⟩) hlt).trans c2; have k1 := rq_cellD hq2 (n - 1) (by rw [HN.out]; omega); rw [HX1.out, HM1.out] at k1; have k2 := rq_cellD hq2 (n - 2) (by rw [HN.out]; omega); rw [HX2.out, HM2.out] at k2)
            | (go_at_call 24; refine (cut s 46 _ (by omega)).mono ?_; rw [HT.out]; rintro e w1 ⟨rfl, q, rfl⟩))
          go_quiet ((go_at_call 26; first | exact Calls.quiet_of_same (containsq x2 _ (rq_drew HQ2.out _) (by omega) HA.out) | exact Calls.quiet_of_same (containsq x2 _ (rq_drew (rq_drew HQ2.out _) _) (by omega) HA.out)))
          rename_i nq
          have HQ0' := Lib.hid (rq_drew HQ0.out nq)
          have d0' : (w2.drewN nq).cell? ⟨w.heap.size, 0, none⟩ = some (.slice A0 OS.length k0) := d0
          have k1' : (w2.drewN nq).cell? ⟨w.heap.size + 1, m1, none⟩ = some (.string x1) := k1
          have k2' : (w2.drewN nq).cell? ⟨w.heap.size + 1, m2, none⟩ = some (.string x2) := k2
          have hbb := pw_drewN (hB.trans (hb12.mono hB.size)) nq
          generalize w2.drewN nq = W at *
          go_wp2
          go_quiet (fail)
          go_wp2
          go_ret3
          exact ⟨ret3 HS.out, pw_drewN hbb _⟩
        · have hd3 : decide ((1 : Int) < m2) = true := decide_eq_true (by omega)
          obtain ⟨m3, hm3n⟩ : ∃ m3, n - 3 = m3 := ⟨_, rfl⟩
          have HM3 := Lib.hid hm3n
          have w3a : IntKind.i64.wrap ((m2 : Int) - 1) = (m3 : Int) := by rw [IntWalk.i64_in _ (by omega)]; omega
          have w3b : (m2 : Int) - 1 = (m3 : Int) := by omega
          have b3 : (m3 : Int) < n := by omega
          cases ho : inL x3 OS with
          | false =>
            have HO := Lib.hid ho
            have HS := Lib.hid (show R = (nul, x2, true) by rw [← HR.out]; unfold sufF; simp [hn1, hn2, hn3, ht, ha, ho])
            clear ha ho ht
            go_enter Tryd.func10, Tryd.ntmps10
            go_wp2_with (first
              | (exfalso; rename_i hu _; simp [undef] at hu; done)
              | (go_at_call 25; refine (splitT t 95 m _ hts (by first | exact hm1 | simpa using hm1)).mono ?_; rw [HL.out, HN.out]; rintro e w2 ⟨rfl, hq2, hb2⟩; rw [hsq] at hq2; have hb12 := (pw_drewN (Below.refl _ (w.alloc (.cells #[.slice A0 OS.length k0, v1, .slice A2 Ar.length k2, v3, v4, v5] 24))) q).trans (hb2.mono (Nat.le_of_eq rfl)); have HQ0 := Lib.hid (rq_below h0 hb12); have HQ2 := Lib.hid (rq_below h2 hb12); have d0 := (hb12.cell (p := ⟨w.heap.size, 0, none⟩) hlt).trans c0; have d2 := (hb12.cell (p := ⟨w.heap.size, 2, none⟩) hlt).trans c2; have k1 := rq_cellD hq2 (n - 1) (by rw [HN.out]; omega); rw [HX1.out, HM1.out] at k1; have k2 := rq_cellD hq2 (n - 2) (by rw [HN.out]; omega); rw [HX2.out, HM2.out] at k2; have k3 := rq_cellD hq2 (n - 3) (by rw [HN.out]; omega); rw [HX3.out, HM3.out] at k3)
              | (go_at_call 24; refine (cut s 46 _ (by omega)).mono ?_; rw [HT.out]; rintro e w1 ⟨rfl, q, rfl⟩))
            go_quiet ((go_at_call 26; first | exact Calls.quiet_of_same (containsq x2 _ (rq_drew HQ2.out _) (by omega) HA.out) | exact Calls.quiet_of_same (containsq x2 _ (rq_drew (rq_drew HQ2.out _) _) (by omega) HA.out)))
            rename_i nq
            have HQ0' := Lib.hid (rq_drew HQ0.out nq)
            have d0' : (w2.drewN nq).cell? ⟨w.heap.size, 0, none⟩ = some (.slice A0 OS.length k0) := d0
            have k1' : (w2.drewN nq).cell? ⟨w.heap.size + 1, m1, none⟩ = some (.string x1) := k1
            have k2' : (w2.drewN nq).cell? ⟨w.heap.size + 1, m2, none⟩ = some (.string x2) := k2
            have k3' : (w2.drewN nq).cell? ⟨w.heap.size + 1, m3, none⟩ = some (.string x3) := k3
            have hbb := pw_drewN (hB.trans (hb12.mono hB.size)) nq
            generalize w2.drewN nq = W at *
            go_wp2
            go_quiet ((go_at_call 26; first | exact Calls.quiet_of_same (containsq x3 _ (rq_drew HQ0'.out _) (by omega) HO.out) | exact Calls.quiet_of_same (containsq x3 _ (rq_drew (rq_drew HQ0'.out _) _) (by omega) HO.out)))
            go_wp2
            go_ret3
            exact ⟨ret3 HS.out, pw_drewN hbb _⟩
          | true =>
            have HO := Lib.hid ho
            have HS := Lib.hid (show R = (x3, x2, true) by rw [← HR.out]; unfold sufF; simp [hn1, hn2, hn3, ht, ha, ho])
            clear ha ho ht
            go_enter Tryd.func10, Tryd.ntmps10
            go_wp2_with (first
              | (exfalso; rename_i hu _; simp [undef] at hu; done)
              | (go_at_call 25; refine (splitT t 95 m _ hts (by first | exact hm1 | simpa using hm1)).mono ?_; rw [HL.out, HN.out]; rintro e w2 ⟨rfl, hq2, hb2⟩; rw [hsq] at hq2; have hb12 := (pw_drewN (Below.refl _ (w.alloc (.cells #[.slice A0 OS.length k0, v1, .slice A2 Ar.length k2, v3, v4, v5] 24))) q).trans (hb2.mono (Nat.le_of_eq rfl)); have HQ0 := Lib.hid (rq_below h0 hb12); have HQ2 := Lib.hid (rq_below h2 hb12); have d0 := (hb12.cell (p := ⟨w.heap.size, 0, none⟩) hlt).trans c0; have d2 := (hb12.cell (p := ⟨w.heap.size, 2, none⟩) hlt).trans c2; have k1 := rq_cellD hq2 (n - 1) (by rw [HN.out]; omega); rw [HX1.out, HM1.out] at k1; have k2 := rq_cellD hq2 (n - 2) (by rw [HN.out]; omega); rw [HX2.out, HM2.out] at k2; have k3 := rq_cellD hq2 (n - 3) (by rw [HN.out]; omega); rw [HX3.out, HM3.out] at k3)
              | (go_at_call 24; refine (cut s 46 _ (by omega)).mono ?_; rw [HT.out]; rintro e w1 ⟨rfl, q, rfl⟩))
            go_quiet ((go_at_call 26; first | exact Calls.quiet_of_same (containsq x2 _ (rq_drew HQ2.out _) (by omega) HA.out) | exact Calls.quiet_of_same (containsq x2 _ (rq_drew (rq_drew HQ2.out _) _) (by omega) HA.out)))
            rename_i nq
            have HQ0' := Lib.hid (rq_drew HQ0.out nq)
            have d0' : (w2.drewN nq).cell? ⟨w.heap.size, 0, none⟩ = some (.slice A0 OS.length k0) := d0
            have k1' : (w2.drewN nq).cell? ⟨w.heap.size + 1, m1, none⟩ = some (.string x1) := k1
            have k2' : (w2.drewN nq).cell? ⟨w.heap.size + 1, m2, none⟩ = some (.string x2) := k2
            have k3' : (w2.drewN nq).cell? ⟨w.heap.size + 1, m3, none⟩ = some (.string x3) := k3
            have hbb := pw_drewN (hB.trans (hb12.mono hB.size)) nq
            generalize w2.drewN nq = W at *
            go_wp2
            go_quiet ((go_at_call 26; first | exact Calls.quiet_of_same (containsq x3 _ (rq_drew HQ0'.out _) (by omega) HO.out) | exact Calls.quiet_of_same (containsq x3 _ (rq_drew (rq_drew HQ0'.out _) _) (by omega) HO.out)))
            go_wp2
            go_ret3
            exact ⟨ret3 HS.out, pw_drewN hbb _⟩
end Go.Proofs.YtcfmaeonginefaaDoor.Suffix
