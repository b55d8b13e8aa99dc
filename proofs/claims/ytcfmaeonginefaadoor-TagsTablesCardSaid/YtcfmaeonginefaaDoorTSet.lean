/- tags.Set: what it answers. -/
import Derived.Test.YtcfmaeonginefaaDoorSet14
import Derived.Test.YtcfmaeonginefaaDoorSorted
namespace Go.Proofs.YtcfmaeonginefaaDoor.TSet
open Go Go.RowKit Go.Maps Go.Proofs.YtcfmaeonginefaaDoor.Made Go.Proofs.YtcfmaeonginefaaDoor.Base Go.Proofs.YtcfmaeonginefaaDoor.Sets Go.Proofs.YtcfmaeonginefaaDoor.Of Go.Proofs.YtcfmaeonginefaaDoor.Each Go.Proofs.YtcfmaeonginefaaDoor.Tag Go.Proofs.YtcfmaeonginefaaDoor.Has Go.Proofs.YtcfmaeonginefaaDoor.Check Go.Proofs.YtcfmaeonginefaaDoor.Append Go.Proofs.YtcfmaeonginefaaDoor.Put Go.Proofs.YtcfmaeonginefaaDoor.Set14 Go.Proofs.YtcfmaeonginefaaDoor.Sorted
set_option linter.unusedSimpArgs false
set_option linter.unusedVariables false

theorem inL_app (m : ByteArray) (a b : List ByteArray) : inL m (a ++ b) = (inL m a || inL m b) := by
  rw [Bool.eq_iff_iff, Bool.or_eq_true, inL_iff, inL_iff, inL_iff, List.mem_append]
def moreB2 (OS Ar Re : List ByteArray) (m : ByteArray) : Bool := tagT m && !inL m (OS ++ (Ar ++ Re))
theorem more_eq (OS Ar Re : List ByteArray) : moreB2 OS Ar Re = moreB OS Ar Re := by
  funext m
  unfold moreB2 moreB
  rw [inL_app, inL_app]
  cases tagT m <;> cases inL m OS <;> cases inL m Ar <;> cases inL m Re <;> rfl
def allL (Un Re more : List ByteArray) (os arch : ByteArray) (r : Nat) : List ByteArray := ([os, arch] ++ Re.take r) ++ (if inL os Un = true then [unixS] else []) ++ more
theorem all_yes {Un Re more : List ByteArray} {os arch : ByteArray} {r : Nat} (h : inL os Un = true) : allL Un Re more os arch r = [os, arch] ++ Re.take r ++ [unixS] ++ more := by unfold allL; rw [if_pos h]
theorem all_no {Un Re more : List ByteArray} {os arch : ByteArray} {r : Nat} (h : inL os Un = false) : allL Un Re more os arch r = [os, arch] ++ Re.take r ++ more := by unfold allL; rw [if_neg (by rw [h]; decide), List.append_nil]
theorem own_two (w : World) (x y : ByteArray) : OwnT (w.alloc (.cells #[.string x, .string y] 9)) w.heap.size (.slice (some ⟨w.heap.size, 0, none⟩) 2 2) [x, y] := World.ownsRow_lit w #[.string x, .string y] 2 (Nat.le_refl _) (by decide) rfl
theorem rq_take {w : World} {A : Option Addr} {c : Nat} {xs : List ByteArray} (h : Rq w (.slice A xs.length c) xs) (k : Nat) (hk : k ≤ xs.length) : Rq w (.slice A k c) (xs.take k) := by
  obtain ⟨A', c', he, hA, hc, hr⟩ := h
  cases he
  have hl : (xs.take k).length = k := by rw [List.length_take]; omega
  refine ⟨A, c, by rw [hl], hA, by omega, fun i hi => ?_⟩
  rw [hl] at hi
  obtain ⟨g, o, hg, hcell⟩ := hr i (by omega)
  refine ⟨g, o, hg, ?_⟩
  rw [hcell]; simp
theorem rq_belowB {w w' : World} {v : Value} {xs : List ByteArray} (h : Rq w v xs) (hb : Below w.heap.size w w') : Rq w' v xs := rq_below h hb
def setM (OS Un Ar Re more : List ByteArray) (os arch : ByteArray) (rel : Int) : List ByteArray :=
  if setI OS Ar Re more os arch rel = 0 then compB (sortB (allL Un Re more os arch rel.toNat)) else []

set_option maxRecDepth 100000 in
set_option maxHeartbeats 16000000 in
theorem Set (v0 v1 v2 v3 v4 v5 vm : Value) (OS Un Ar St Re Li more : List ByteArray) (os arch : ByteArray) (rel : Int) (w : World) (h0 : Rq w v0 OS) (h1 : Rq w v1 Un) (h2 : Rq w v2 Ar) (h3 : Rq w v3 St) (h4 : Rq w v4 Re) (h5 : Rq w v5 Li) (hm : Rq w vm more)
    (f0 : Fit OS) (f1 : Fit Un) (f2 : Fit Ar) (f4 : Fit Re) (fm : Fit more) (hr1 : -9223372036854775808 ≤ rel) (hr2 : rel < 9223372036854775808) :
    Calls Tryd.prog 12 #[.agg #[v0, v1, v2, v3, v4, v5], .string os, .string arch, .int .i64 rel, vm] w fun e w' =>
      ∃ v, e = .returned (.tuple #[v, .int .i64 (setI OS Ar Re more os arch rel)]) ∧ Rq w' v (setM OS Un Ar Re more os arch rel) ∧ Below w.heap.size w w' := by
  have hB := below_alloc w (.cells #[v0, v1, v2, v3, v4, v5] 24)
  have hsz := alloc_size w (.cells #[v0, v1, v2, v3, v4, v5] 24)
  have hlt : w.heap.size < (w.alloc (.cells #[v0, v1, v2, v3, v4, v5] 24)).heap.size := by rw [hsz]; exact Nat.lt_succ_self _
  have c0 := cell_new w #[v0, v1, v2, v3, v4, v5] 24 0 v0 rfl
  have c1 := cell_new w #[v0, v1, v2, v3, v4, v5] 24 1 v1 rfl
  have c2 := cell_new w #[v0, v1, v2, v3, v4, v5] 24 2 v2 rfl
  have c4 := cell_new w #[v0, v1, v2, v3, v4, v5] 24 4 v4 rfl
  replace h0 := rq_below h0 hB
  replace h1 := rq_below h1 hB
  replace h2 := rq_below h2 hB
  replace h3 := rq_below h3 hB
  replace h4 := rq_below h4 hB
  replace h5 := rq_below h5 hB
  replace hm := rq_below hm hB
  obtain ⟨A0, k0, e0, _⟩ := id h0
  obtain ⟨A1, k1, e1, _⟩ := id h1
  obtain ⟨A2, k2, e2, _⟩ := id h2
  obtain ⟨A3, k3, e3, _⟩ := id h3
  obtain ⟨A4, k4, e4, _⟩ := id h4
  obtain ⟨A5, k5, e5, _⟩ := id h5
  obtain ⟨Am, km, em, _⟩ := id hm
  subst e0 e1 e2 e3 e4 e5 em
  have z0 := f0.1
  have z1 := f1.1
  have z2 := f2.1
  have z4 := f4.1
  have zm := fm.1
  obtain ⟨R, hR⟩ : ∃ R, setI OS Ar Re more os arch rel = R := ⟨_, rfl⟩
  obtain ⟨L, hL⟩ : ∃ L, setM OS Un Ar Re more os arch rel = L := ⟨_, rfl⟩
  rw [hR, hL]
  have hLR := hL
  unfold setM at hLR
  rw [hR] at hLR
  unfold setI at hR
  have HR := Lib.hid hR
  have HL := Lib.hid hLR
  clear hR hL hLR
  cases ha : inL os OS with
  | false =>
    have HS := Lib.hid (show R = 3 by rw [← HR.out, ha]; rfl)
    have HS2 := Lib.hid (show L = [] by rw [← HL.out, HS.out]; rfl)
    have HA := Lib.hid ha
    clear ha
    go_enter Tryd.func12, Tryd.ntmps12
    go_wp2_with (first
      | (exfalso; rename_i hu _; simp [undef] at hu; done)
      | (go_at_call 26; refine (contains os _ h0 (by omega)).mono ?_; rw [HA.out]; rintro e w' ⟨rfl, rfl⟩))
    go_ret2
    exact ⟨_, ret2 _ HS.out.symm, by rw [HS2.out]; exact rq_nil _, hB⟩
  | true =>
  have HA := Lib.hid ha
  cases hb : inL arch Ar with
  | false =>
    have HS := Lib.hid (show R = 3 by rw [← HR.out, ha, hb]; rfl)
    have HS2 := Lib.hid (show L = [] by rw [← HL.out, HS.out]; rfl)
    have HB := Lib.hid hb
    clear ha hb
    go_enter Tryd.func12, Tryd.ntmps12
    go_wp2_with (first
      | (exfalso; rename_i hu _; simp [undef] at hu; done)
      | (go_at_call 26; have mk2 := mk1; refine (contains arch _ h2 (by omega)).mono ?_; rw [HB.out]; rintro e w' ⟨rfl, rfl⟩)
      | (go_at_call 26; refine (contains os _ h0 (by omega)).mono ?_; rw [HA.out]; rintro e w' ⟨rfl, rfl⟩; have mk1 := True.intro))
    go_ret2
    exact ⟨_, ret2 _ HS.out.symm, by rw [HS2.out]; exact rq_nil _, hB⟩
  | true =>
  have HB := Lib.hid hb
  by_cases hc : (0 : Int) ≤ rel ∧ rel ≤ Re.length
  · obtain ⟨hc1, hc2⟩ := hc
    obtain ⟨r, rfl⟩ : ∃ r : Nat, rel = r := ⟨rel.toNat, by omega⟩
    have hrr : r ≤ Re.length := by omega
    have hnlt : decide (Re.length < r) = false := decide_eq_false (by omega)
    have hnlt2 : ¬ Re.length < r := by omega
    have HRR := Lib.hid (show (if allB (moreB OS Ar Re) more = false then 1 else 0) = R by rw [← HR.out, ha, hb, decide_eq_true hc1, decide_eq_true hc2]; rfl)
    clear ha hb hr1 hr2 hc1
    cases hM : allB (moreB OS Ar Re) more with
    | false =>
      have HS := Lib.hid (show R = 1 by rw [← HRR.out, hM]; rfl)
      have HS2 := Lib.hid (show L = [] by rw [← HL.out, HS.out]; rfl)
      have HM := Lib.hid (show allB (moreB2 OS Ar Re) more = false by rw [more_eq]; exact hM)
      clear hM HRR HR HL
      go_enter Tryd.func12, Tryd.ntmps12
      go_wp2_with (first
        | (exfalso; rename_i hu _; simp [undef] at hu; done)
        | (go_at_call 26; (fail_if_success (have := hb4)); have mk2 := mk1; refine (contains arch _ h2 (by omega)).mono ?_; rw [HB.out]; rintro e w' ⟨rfl, rfl⟩)
        | (go_at_call 26; (fail_if_success (have := mk1)); refine (contains os _ h0 (by omega)).mono ?_; rw [HA.out]; rintro e w' ⟨rfl, rfl⟩; have mk1 := True.intro)
        | (go_at_call 30; refine (each_more _ _ _ (moreB2 OS Ar Re) _ _ hS3 (fun W s hs hb => (isMore s (Nat.le_trans (fm.2 s hs) (by omega)) w2.heap.size _ _ _ W ((hb.cell (p := ⟨w2.heap.size, 0, none⟩) (Nat.lt_of_lt_of_le hlt2 hb3.size)).trans ((hb3.cell (p := ⟨w2.heap.size, 0, none⟩) hlt2).trans cm)) (set_below (set_below (set_below hS2 hb2b) hb3) hb)).mono fun e W' ⟨h1, h2⟩ => ⟨h1, by rw [← h2]; exact Below.refl _ _⟩)).mono ?_; rw [HM.out]; rintro r4 w4 ⟨rfl, hb4⟩; have hb14 := ((hb2.trans (hb2b.mono hb2.size)).trans (hb3.mono (Nat.le_trans hb2.size hb2b.size))).trans (hb4.mono (Nat.le_trans (Nat.le_trans hb2.size hb2b.size) hb3.size)); have d4 := (hb14.cell (p := ⟨w.heap.size, 4, none⟩) hlt).trans c4)
        | (go_at_call 29; have hb2c := hb2b; refine (of1 _ _ _ hsz2 (rq_below (rq_below hm hb2) hb2b) fm).mono ?_; rintro r3 w3 ⟨rfl, hS3, hb3, hl3⟩)
        | (go_at_call 29; (fail_if_success (have := hb2)); refine (of3 _ _ _ hsz h0 h2 h4 f0 f2 f4).mono ?_; rintro r2 w2 ⟨rfl, hS2, hb2, hl2⟩; have hb2b := below_alloc w2 (.cells #[.map (some (w.heap.size + 1 + 1))] 64); have hsz2 := alloc_size w2 (.cells #[.map (some (w.heap.size + 1 + 1))] 64); have cm := cell_new w2 #[.map (some (w.heap.size + 1 + 1))] 64 0 (.map (some (w.heap.size + 1 + 1))) rfl; have hlt2 : w2.heap.size < (w2.alloc (.cells #[.map (some (w.heap.size + 1 + 1))] 64)).heap.size := (by rw [hsz2]; exact Nat.lt_succ_self _)))
      go_ret2
      exact ⟨_, ret2 _ HS.out.symm, by rw [HS2.out]; exact rq_nil _, hB.trans (hb14.mono hB.size)⟩
    | true =>
      have HS := Lib.hid (show R = 0 by rw [← HRR.out, hM]; rfl)
      have HS2 := Lib.hid (show L = compB (sortB (allL Un Re more os arch r)) by rw [← HL.out, HS.out]; rfl)
      have HM := Lib.hid (show allB (moreB2 OS Ar Re) more = true by rw [more_eq]; exact hM)
      obtain ⟨-, -, -, -, hk4, -⟩ := id h4
      clear hM HRR HR HL
      cases hU : inL os Un with
      | true =>
        have HU := Lib.hid hU
        clear hU
        go_enter Tryd.func12, Tryd.ntmps12
        go_wp2_with (first
              | (exfalso; rename_i hu _; simp [undef] at hu; done)
              | (go_at_call 34; refine (compactT _ hE8 (by rw [sortB_length]; simp [List.length_take]; omega)).mono ?_; rintro e9 w9 ⟨v9, rfl, hq9, hg9⟩; have hb9 := own_grown hb8 hE8 hg9 hl8)
              | (go_at_call 33; refine (sortT _ hE7 (by simp [List.length_take]; omega)).mono ?_; rintro e8 w8 ⟨rfl, hE8, hg8⟩; have hb8 := own_grown hb7 hE7 hg8 hl7; have hl8 := Nat.le_trans hl7 hg8.size)
              | (at_builtin; have hx := hE6; refine append_rq _ rfl _ _ rfl w4.heap.size (.slice A6 n6 c6) _ ([os, arch] ++ Re.take r ++ [unixS]) more (by rfl) hE6 (by rfl) (rq_belowB (rq_below hm hb14) hb6) hl6 (by simp [List.length_take]; omega) ?_; intro A7 c7 w7 hE7 hg7; obtain ⟨n7, hn7⟩ : ∃ n7, ([os, arch] ++ Re.take r ++ [unixS] ++ more).length = n7 := ⟨_, rfl⟩; rw [hn7] at hE7 ⊢; have hb7 := own_grown hb6 hE6 hg7 hl6; have hl7 := Nat.le_trans hl6 hg7.size)
              | (at_builtin; have hx := hE5; (fail_if_success (have := hE6)); refine append_one w4 w5 _ rfl _ _ rfl w4.heap.size (.slice A5 n5 c5) ([os, arch] ++ Re.take r) unixS (by rfl) hE5 _ (by rfl) rfl hl5 (by simp [List.length_take]; omega) hb5 ?_; intro A6 c6 w6 hE6 hb6 hl6; obtain ⟨n6, hn6⟩ : ∃ n6, ([os, arch] ++ Re.take r).length + 1 = n6 := ⟨_, rfl⟩; rw [hn6] at hE6 ⊢)
              | (go_at_call 26; have m5 := hE5; refine (contains os _ (rq_belowB (rq_below h1 hb14) hb5) (by omega)).mono ?_; rw [HU.out]; rintro e w' ⟨rfl, rfl⟩)
              | (at_builtin; (fail_if_success (have := hE5)); refine append_rq _ rfl _ _ rfl w4.heap.size (.slice (some ⟨w4.heap.size, 0, none⟩) 2 2) _ [os, arch] (Re.take r) (by rfl) hE4 (by rfl) hqT hle4 (by simp [List.length_take]; omega) ?_; intro A5 c5 w5 hE5 hg5; obtain ⟨n5, hn5⟩ : ∃ n5, ([os, arch] ++ Re.take r).length = n5 := ⟨_, rfl⟩; rw [hn5] at hE5 ⊢; have hb5 := own_grown hb4a hE4 hg5 hle4; have hl5 := Nat.le_trans hle4 hg5.size; have d1 := ((hb14.trans (hb5.mono hb14.size)).cell (p := ⟨w.heap.size, 1, none⟩) hlt).trans c1)
              | (go_at_call 26; (fail_if_success (have := hb4)); have mk2 := mk1; refine (contains arch _ h2 (by omega)).mono ?_; rw [HB.out]; rintro e w' ⟨rfl, rfl⟩)
              | (go_at_call 26; (fail_if_success (have := mk1)); refine (contains os _ h0 (by omega)).mono ?_; rw [HA.out]; rintro e w' ⟨rfl, rfl⟩; have mk1 := True.intro)
              | (go_at_call 30; refine (each_more _ _ _ (moreB2 OS Ar Re) _ _ hS3 (fun W s hs hb => (isMore s (Nat.le_trans (fm.2 s hs) (by omega)) w2.heap.size _ _ _ W ((hb.cell (p := ⟨w2.heap.size, 0, none⟩) (Nat.lt_of_lt_of_le hlt2 hb3.size)).trans ((hb3.cell (p := ⟨w2.heap.size, 0, none⟩) hlt2).trans cm)) (set_below (set_below (set_below hS2 hb2b) hb3) hb)).mono fun e W' ⟨h1, h2⟩ => ⟨h1, by rw [← h2]; exact Below.refl _ _⟩)).mono ?_; rw [HM.out]; rintro r4 w4 ⟨rfl, hb4⟩; have hb14 := ((hb2.trans (hb2b.mono hb2.size)).trans (hb3.mono (Nat.le_trans hb2.size hb2b.size))).trans (hb4.mono (Nat.le_trans (Nat.le_trans hb2.size hb2b.size) hb3.size)); have d4 := (hb14.cell (p := ⟨w.heap.size, 4, none⟩) hlt).trans c4; have hE4 := own_two w4 os arch; have hb4a := below_alloc w4 (.cells #[.string os, .string arch] 9); have hle4 := hb4a.size; have d4a := (hb4a.cell (p := ⟨w.heap.size, 4, none⟩) (Nat.lt_of_lt_of_le hlt hb14.size)).trans d4; have hqT := rq_take (rq_below (rq_below h4 hb14) hb4a) r hrr)
              | (go_at_call 29; have hb2c := hb2b; refine (of1 _ _ _ hsz2 (rq_below (rq_below hm hb2) hb2b) fm).mono ?_; rintro r3 w3 ⟨rfl, hS3, hb3, hl3⟩)
              | (go_at_call 29; (fail_if_success (have := hb2)); refine (of3 _ _ _ hsz h0 h2 h4 f0 f2 f4).mono ?_; rintro r2 w2 ⟨rfl, hS2, hb2, hl2⟩; have hb2b := below_alloc w2 (.cells #[.map (some (w.heap.size + 1 + 1))] 64); have hsz2 := alloc_size w2 (.cells #[.map (some (w.heap.size + 1 + 1))] 64); have cm := cell_new w2 #[.map (some (w.heap.size + 1 + 1))] 64 0 (.map (some (w.heap.size + 1 + 1))) rfl; have hlt2 : w2.heap.size < (w2.alloc (.cells #[.map (some (w.heap.size + 1 + 1))] 64)).heap.size := (by rw [hsz2]; exact Nat.lt_succ_self _)))
        go_ret2
        exact ⟨_, ret2 _ HS.out.symm, by rw [HS2.out, all_yes HU.out]; exact hq9, hB.trans ((hb14.trans (hb9.mono hb14.size)).mono hB.size)⟩
      | false =>
        have HU := Lib.hid hU
        clear hU
        go_enter Tryd.func12, Tryd.ntmps12
        go_wp2_with (first
              | (exfalso; rename_i hu _; simp [undef] at hu; done)
              | (go_at_call 34; refine (compactT _ hE8 (by rw [sortB_length]; simp [List.length_take]; omega)).mono ?_; rintro e9 w9 ⟨v9, rfl, hq9, hg9⟩; have hb9 := own_grown hb8 hE8 hg9 hl8)
              | (go_at_call 33; refine (sortT _ hE7 (by simp [List.length_take]; omega)).mono ?_; rintro e8 w8 ⟨rfl, hE8, hg8⟩; have hb8 := own_grown hb7 hE7 hg8 hl7; have hl8 := Nat.le_trans hl7 hg8.size)
              | (at_builtin; have hx := hE5; refine append_rq _ rfl _ _ rfl w4.heap.size (.slice A5 n5 c5) _ ([os, arch] ++ Re.take r) more (by rfl) hE5 (by rfl) (rq_belowB (rq_below hm hb14) hb5) hl5 (by simp [List.length_take]; omega) ?_; intro A7 c7 w7 hE7 hg7; obtain ⟨n7, hn7⟩ : ∃ n7, ([os, arch] ++ Re.take r ++ more).length = n7 := ⟨_, rfl⟩; rw [hn7] at hE7 ⊢; have hb7 := own_grown hb5 hE5 hg7 hl5; have hl7 := Nat.le_trans hl5 hg7.size)
              | (go_at_call 26; have m5 := hE5; refine (contains os _ (rq_belowB (rq_below h1 hb14) hb5) (by omega)).mono ?_; rw [HU.out]; rintro e w' ⟨rfl, rfl⟩)
              | (at_builtin; (fail_if_success (have := hE5)); refine append_rq _ rfl _ _ rfl w4.heap.size (.slice (some ⟨w4.heap.size, 0, none⟩) 2 2) _ [os, arch] (Re.take r) (by rfl) hE4 (by rfl) hqT hle4 (by simp [List.length_take]; omega) ?_; intro A5 c5 w5 hE5 hg5; obtain ⟨n5, hn5⟩ : ∃ n5, ([os, arch] ++ Re.take r).length = n5 := ⟨_, rfl⟩; rw [hn5] at hE5 ⊢; have hb5 := own_grown hb4a hE4 hg5 hle4; have hl5 := Nat.le_trans hle4 hg5.size; have d1 := ((hb14.trans (hb5.mono hb14.size)).cell (p := ⟨w.heap.size, 1, none⟩) hlt).trans c1)
              | (go_at_call 26; (fail_if_success (have := hb4)); have mk2 := mk1; refine (contains arch _ h2 (by omega)).mono ?_; rw [HB.out]; rintro e w' ⟨rfl, rfl⟩)
              | (go_at_call 26; (fail_if_success (have := mk1)); refine (contains os _ h0 (by omega)).mono ?_; rw [HA.out]; rintro e w' ⟨rfl, rfl⟩; have mk1 := True.intro)
              | (go_at_call 30; refine (each_more _ _ _ (moreB2 OS Ar Re) _ _ hS3 (fun W s hs hb => (isMore s (Nat.le_trans (fm.2 s hs) (by omega)) w2.heap.size _ _ _ W ((hb.cell (p := ⟨w2.heap.size, 0, none⟩) (Nat.lt_of_lt_of_le hlt2 hb3.size)).trans ((hb3.cell (p := ⟨w2.heap.size, 0, none⟩) hlt2).trans cm)) (set_below (set_below (set_below hS2 hb2b) hb3) hb)).mono fun e W' ⟨h1, h2⟩ => ⟨h1, by rw [← h2]; exact Below.refl _ _⟩)).mono ?_; rw [HM.out]; rintro r4 w4 ⟨rfl, hb4⟩; have hb14 := ((hb2.trans (hb2b.mono hb2.size)).trans (hb3.mono (Nat.le_trans hb2.size hb2b.size))).trans (hb4.mono (Nat.le_trans (Nat.le_trans hb2.size hb2b.size) hb3.size)); have d4 := (hb14.cell (p := ⟨w.heap.size, 4, none⟩) hlt).trans c4; have hE4 := own_two w4 os arch; have hb4a := below_alloc w4 (.cells #[.string os, .string arch] 9); have hle4 := hb4a.size; have d4a := (hb4a.cell (p := ⟨w.heap.size, 4, none⟩) (Nat.lt_of_lt_of_le hlt hb14.size)).trans d4; have hqT := rq_take (rq_below (rq_below h4 hb14) hb4a) r hrr)
              | (go_at_call 29; have hb2c := hb2b; refine (of1 _ _ _ hsz2 (rq_below (rq_below hm hb2) hb2b) fm).mono ?_; rintro r3 w3 ⟨rfl, hS3, hb3, hl3⟩)
              | (go_at_call 29; (fail_if_success (have := hb2)); refine (of3 _ _ _ hsz h0 h2 h4 f0 f2 f4).mono ?_; rintro r2 w2 ⟨rfl, hS2, hb2, hl2⟩; have hb2b := below_alloc w2 (.cells #[.map (some (w.heap.size + 1 + 1))] 64); have hsz2 := alloc_size w2 (.cells #[.map (some (w.heap.size + 1 + 1))] 64); have cm := cell_new w2 #[.map (some (w.heap.size + 1 + 1))] 64 0 (.map (some (w.heap.size + 1 + 1))) rfl; have hlt2 : w2.heap.size < (w2.alloc (.cells #[.map (some (w.heap.size + 1 + 1))] 64)).heap.size := (by rw [hsz2]; exact Nat.lt_succ_self _)))
        go_ret2
        exact ⟨_, ret2 _ HS.out.symm, by rw [HS2.out, all_no HU.out]; exact hq9, hB.trans ((hb14.trans (hb9.mono hb14.size)).mono hB.size)⟩
  · have HS := Lib.hid (show R = 3 by
      rw [← HR.out, ha, hb]
      rw [if_pos]
      by_cases h1 : (0 : Int) ≤ rel
      · rw [decide_eq_false (show ¬ rel ≤ Re.length by omega)]; simp
      · rw [decide_eq_false h1]; simp)
    have HS2 := Lib.hid (show L = [] by rw [← HL.out, HS.out]; rfl)
    clear ha hb
    by_cases hc0 : (0 : Int) ≤ rel
    · have hc1 : ¬ rel ≤ Re.length := by omega
      have hc2 : (Re.length : Int) < rel := by omega
      clear hc
      go_enter Tryd.func12, Tryd.ntmps12
      go_wp2_with (first
        | (exfalso; rename_i hu _; simp [undef] at hu; done)
        | (go_at_call 26; have mk2 := mk1; refine (contains arch _ h2 (by omega)).mono ?_; rw [HB.out]; rintro e w' ⟨rfl, rfl⟩)
        | (go_at_call 26; refine (contains os _ h0 (by omega)).mono ?_; rw [HA.out]; rintro e w' ⟨rfl, rfl⟩; have mk1 := True.intro))
      go_ret2
      exact ⟨_, ret2 _ HS.out.symm, by rw [HS2.out]; exact rq_nil _, hB⟩
    · have hc2 : rel < 0 := by omega
      clear hc
      go_enter Tryd.func12, Tryd.ntmps12
      go_wp2_with (first
        | (exfalso; rename_i hu _; simp [undef] at hu; done)
        | (go_at_call 26; have mk2 := mk1; refine (contains arch _ h2 (by omega)).mono ?_; rw [HB.out]; rintro e w' ⟨rfl, rfl⟩)
        | (go_at_call 26; refine (contains os _ h0 (by omega)).mono ?_; rw [HA.out]; rintro e w' ⟨rfl, rfl⟩; have mk1 := True.intro))
      go_ret2
      exact ⟨_, ret2 _ HS.out.symm, by rw [HS2.out]; exact rq_nil _, hB⟩
end Go.Proofs.YtcfmaeonginefaaDoor.TSet
