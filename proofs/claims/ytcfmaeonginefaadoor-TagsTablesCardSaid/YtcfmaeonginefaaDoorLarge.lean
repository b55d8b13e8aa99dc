/- graftbedlaw14.large: what it answers. -/
import Derived.Test.YtcfmaeonginefaaDoorLong
namespace Go.Proofs.YtcfmaeonginefaaDoor.Large
open Go Go.RowKit Go.Proofs.YtcfmaeonginefaaDoor.Made Go.Proofs.YtcfmaeonginefaaDoor.Base Go.Proofs.YtcfmaeonginefaaDoor.Sets Go.Proofs.YtcfmaeonginefaaDoor.Check Go.Proofs.YtcfmaeonginefaaDoor.Long
set_option linter.unusedSimpArgs false
set_option linter.unusedVariables false

def largeB (OS Un Ar St Re Li : List ByteArray) : Bool := decide (20 < OS.length) || decide (20 < Un.length) || decide (20 < Ar.length) || decide (40 < St.length) || decide (20 < Re.length) || decide (20 < Li.length) || longB OS || longB Un || longB Ar || longB St || longB Re || longB Li
theorem large_no {OS Un Ar St Re Li : List ByteArray} (h : largeB OS Un Ar St Re Li = false) : Fit OS ∧ Fit Un ∧ Fit Ar ∧ Fit St ∧ Fit Re ∧ Fit Li := by
  unfold largeB at h
  simp only [Bool.or_eq_false_iff, decide_eq_false_iff_not, Nat.not_lt] at h
  obtain ⟨⟨⟨⟨⟨⟨⟨⟨⟨⟨⟨a, b⟩, c⟩, d⟩, e⟩, f⟩, g1⟩, g2⟩, g3⟩, g4⟩, g5⟩, g6⟩ := h
  exact ⟨⟨by omega, long_no g1 (by omega)⟩, ⟨by omega, long_no g2 (by omega)⟩, ⟨by omega, long_no g3 (by omega)⟩, ⟨by omega, long_no g4 (by omega)⟩, ⟨by omega, long_no g5 (by omega)⟩, ⟨by omega, long_no g6 (by omega)⟩⟩

set_option maxRecDepth 100000 in
set_option maxHeartbeats 16000000 in
theorem large (v0 v1 v2 v3 v4 v5 : Value) (OS Un Ar St Re Li : List ByteArray) (w : World) (h0 : Rq w v0 OS) (h1 : Rq w v1 Un) (h2 : Rq w v2 Ar) (h3 : Rq w v3 St) (h4 : Rq w v4 Re) (h5 : Rq w v5 Li)
    (n0 : OS.length ≤ 9223372036854775807) (n1 : Un.length ≤ 9223372036854775807) (n2 : Ar.length ≤ 9223372036854775807) (n3 : St.length ≤ 9223372036854775807) (n4 : Re.length ≤ 9223372036854775807) (n5 : Li.length ≤ 9223372036854775807) :
    Calls Tryd.prog 7 #[.agg #[v0, v1, v2, v3, v4, v5]] w fun e w' => e = .returned (.bool (largeB OS Un Ar St Re Li)) ∧ Below w.heap.size w w' := by
  have hB := below_alloc w (.cells #[v0, v1, v2, v3, v4, v5] 24)
  have c0 := cell_new w #[v0, v1, v2, v3, v4, v5] 24 0 v0 rfl
  have c1 := cell_new w #[v0, v1, v2, v3, v4, v5] 24 1 v1 rfl
  have c2 := cell_new w #[v0, v1, v2, v3, v4, v5] 24 2 v2 rfl
  have c3 := cell_new w #[v0, v1, v2, v3, v4, v5] 24 3 v3 rfl
  have c4 := cell_new w #[v0, v1, v2, v3, v4, v5] 24 4 v4 rfl
  have c5 := cell_new w #[v0, v1, v2, v3, v4, v5] 24 5 v5 rfl
  replace h0 := rq_below h0 hB
  replace h1 := rq_below h1 hB
  replace h2 := rq_below h2 hB
  replace h3 := rq_below h3 hB
  replace h4 := rq_below h4 hB
  replace h5 := rq_below h5 hB
  obtain ⟨A0, k0, e0, _⟩ := id h0
  obtain ⟨A1, k1, e1, _⟩ := id h1
  obtain ⟨A2, k2, e2, _⟩ := id h2
  obtain ⟨A3, k3, e3, _⟩ := id h3
  obtain ⟨A4, k4, e4, _⟩ := id h4
  obtain ⟨A5, k5, e5, _⟩ := id h5
  subst e0 e1 e2 e3 e4 e5
  obtain ⟨R, hR⟩ : ∃ R, largeB OS Un Ar St Re Li = R := ⟨_, rfl⟩
  rw [hR]
  unfold largeB at hR
  by_cases q0 : 20 < OS.length
  · have r0 : (20 : Int) < OS.length := by omega
    have HS := Lib.hid (show R = true by rw [← hR]; simp [q0])
    clear hR
    go_enter Tryd.func7, Tryd.ntmps7
    go_wp2_with (first
          | (exfalso; rename_i hu _; simp [undef] at hu; done)
    )
    go_ret
    exact ⟨ret_bool HS.out.symm, hB⟩
  have r0 : ¬ (20 : Int) < OS.length := by omega
  by_cases q1 : 20 < Un.length
  · have r1 : (20 : Int) < Un.length := by omega
    have HS := Lib.hid (show R = true by rw [← hR]; simp [q0, q1])
    clear hR
    go_enter Tryd.func7, Tryd.ntmps7
    go_wp2_with (first
          | (exfalso; rename_i hu _; simp [undef] at hu; done)
    )
    go_ret
    exact ⟨ret_bool HS.out.symm, hB⟩
  have r1 : ¬ (20 : Int) < Un.length := by omega
  by_cases q2 : 20 < Ar.length
  · have r2 : (20 : Int) < Ar.length := by omega
    have HS := Lib.hid (show R = true by rw [← hR]; simp [q0, q1, q2])
    clear hR
    go_enter Tryd.func7, Tryd.ntmps7
    go_wp2_with (first
          | (exfalso; rename_i hu _; simp [undef] at hu; done)
    )
    go_ret
    exact ⟨ret_bool HS.out.symm, hB⟩
  have r2 : ¬ (20 : Int) < Ar.length := by omega
  by_cases q3 : 40 < St.length
  · have r3 : (40 : Int) < St.length := by omega
    have HS := Lib.hid (show R = true by rw [← hR]; simp [q0, q1, q2, q3])
    clear hR
    go_enter Tryd.func7, Tryd.ntmps7
    go_wp2_with (first
          | (exfalso; rename_i hu _; simp [undef] at hu; done)
    )
    go_ret
    exact ⟨ret_bool HS.out.symm, hB⟩
  have r3 : ¬ (40 : Int) < St.length := by omega
  by_cases q4 : 20 < Re.length
  · have r4 : (20 : Int) < Re.length := by omega
    have HS := Lib.hid (show R = true by rw [← hR]; simp [q0, q1, q2, q3, q4])
    clear hR
    go_enter Tryd.func7, Tryd.ntmps7
    go_wp2_with (first
          | (exfalso; rename_i hu _; simp [undef] at hu; done)
    )
    go_ret
    exact ⟨ret_bool HS.out.symm, hB⟩
  have r4 : ¬ (20 : Int) < Re.length := by omega
  by_cases q5 : 20 < Li.length
  · have r5 : (20 : Int) < Li.length := by omega
    have HS := Lib.hid (show R = true by rw [← hR]; simp [q0, q1, q2, q3, q4, q5])
    clear hR
    go_enter Tryd.func7, Tryd.ntmps7
    go_wp2_with (first
          | (exfalso; rename_i hu _; simp [undef] at hu; done)
    )
    go_ret
    exact ⟨ret_bool HS.out.symm, hB⟩
  have r5 : ¬ (20 : Int) < Li.length := by omega
  cases l0 : longB OS with
  | true =>
    have HL0 := Lib.hid l0
    have HS := Lib.hid (show R = true by rw [← hR]; simp [q0, q1, q2, q3, q4, q5, l0])
    clear hR
    go_enter Tryd.func7, Tryd.ntmps7
    go_wp2_with (first
          | (exfalso; rename_i hu _; simp [undef] at hu; done)
          | (go_at_call 8; (fail_if_success (have := mk0)); refine (long _ h0 n0).mono ?_; rw [HL0.out]; rintro e w' ⟨rfl, rfl⟩; have mk0 := True.intro))
    go_ret
    exact ⟨ret_bool HS.out.symm, hB⟩
  | false =>
  have HL0 := Lib.hid l0
  cases l1 : longB Un with
  | true =>
    have HL1 := Lib.hid l1
    have HS := Lib.hid (show R = true by rw [← hR]; simp [q0, q1, q2, q3, q4, q5, l0, l1])
    clear hR
    go_enter Tryd.func7, Tryd.ntmps7
    go_wp2_with (first
          | (exfalso; rename_i hu _; simp [undef] at hu; done)
          | (go_at_call 8; have pm := mk0; (fail_if_success (have := mk1)); refine (long _ h1 n1).mono ?_; rw [HL1.out]; rintro e w' ⟨rfl, rfl⟩; have mk1 := True.intro)
          | (go_at_call 8; (fail_if_success (have := mk0)); refine (long _ h0 n0).mono ?_; rw [HL0.out]; rintro e w' ⟨rfl, rfl⟩; have mk0 := True.intro))
    go_ret
    exact ⟨ret_bool HS.out.symm, hB⟩
  | false =>
  have HL1 := Lib.hid l1
  cases l2 : longB Ar with
  | true =>
    have HL2 := Lib.hid l2
    have HS := Lib.hid (show R = true by rw [← hR]; simp [q0, q1, q2, q3, q4, q5, l0, l1, l2])
    clear hR
    go_enter Tryd.func7, Tryd.ntmps7
    go_wp2_with (first
          | (exfalso; rename_i hu _; simp [undef] at hu; done)
          | (go_at_call 8; have pm := mk1; (fail_if_success (have := mk2)); refine (long _ h2 n2).mono ?_; rw [HL2.out]; rintro e w' ⟨rfl, rfl⟩; have mk2 := True.intro)
          | (go_at_call 8; have pm := mk0; (fail_if_success (have := mk1)); refine (long _ h1 n1).mono ?_; rw [HL1.out]; rintro e w' ⟨rfl, rfl⟩; have mk1 := True.intro)
          | (go_at_call 8; (fail_if_success (have := mk0)); refine (long _ h0 n0).mono ?_; rw [HL0.out]; rintro e w' ⟨rfl, rfl⟩; have mk0 := True.intro))
    go_ret
    exact ⟨ret_bool HS.out.symm, hB⟩
  | false =>
  have HL2 := Lib.hid l2
  cases l3 : longB St with
  | true =>
    have HL3 := Lib.hid l3
    have HS := Lib.hid (show R = true by rw [← hR]; simp [q0, q1, q2, q3, q4, q5, l0, l1, l2, l3])
    clear hR
    go_enter Tryd.func7, Tryd.ntmps7
    go_wp2_with (first
          | (exfalso; rename_i hu _; simp [undef] at hu; done)
          | (go_at_call 8; have pm := mk2; (fail_if_success (have := mk3)); refine (long _ h3 n3).mono ?_; rw [HL3.out]; rintro e w' ⟨rfl, rfl⟩; have mk3 := True.intro)
          | (go_at_call 8; have pm := mk1; (fail_if_success (have := mk2)); refine (long _ h2 n2).mono ?_; rw [HL2.out]; rintro e w' ⟨rfl, rfl⟩; have mk2 := True.intro)
          | (go_at_call 8; have pm := mk0; (fail_if_success (have := mk1)); refine (long _ h1 n1).mono ?_; rw [HL1.out]; rintro e w' ⟨rfl, rfl⟩; have mk1 := True.intro)
          | (go_at_call 8; (fail_if_success (have := mk0)); refine (long _ h0 n0).mono ?_; rw [HL0.out]; rintro e w' ⟨rfl, rfl⟩; have mk0 := True.intro))
    go_ret
    exact ⟨ret_bool HS.out.symm, hB⟩
  | false =>
  have HL3 := Lib.hid l3
  cases l4 : longB Re with
  | true =>
    have HL4 := Lib.hid l4
    have HS := Lib.hid (show R = true by rw [← hR]; simp [q0, q1, q2, q3, q4, q5, l0, l1, l2, l3, l4])
    clear hR
    go_enter Tryd.func7, Tryd.ntmps7
    go_wp2_with (first
          | (exfalso; rename_i hu _; simp [undef] at hu; done)
          | (go_at_call 8; have pm := mk3; (fail_if_success (have := mk4)); refine (long _ h4 n4).mono ?_; rw [HL4.out]; rintro e w' ⟨rfl, rfl⟩; have mk4 := True.intro)
          | (go_at_call 8; have pm := mk2; (fail_if_success (have := mk3)); refine (long _ h3 n3).mono ?_; rw [HL3.out]; rintro e w' ⟨rfl, rfl⟩; have mk3 := True.intro)
          | (go_at_call 8; have pm := mk1; (fail_if_success (have := mk2)); refine (long _ h2 n2).mono ?_; rw [HL2.out]; rintro e w' ⟨rfl, rfl⟩; have mk2 := True.intro)
          | (go_at_call 8; have pm := mk0; (fail_if_success (have := mk1)); refine (long _ h1 n1).mono ?_; rw [HL1.out]; rintro e w' ⟨rfl, rfl⟩; have mk1 := True.intro)
          | (go_at_call 8; (fail_if_success (have := mk0)); refine (long _ h0 n0).mono ?_; rw [HL0.out]; rintro e w' ⟨rfl, rfl⟩; have mk0 := True.intro))
    go_ret
    exact ⟨ret_bool HS.out.symm, hB⟩
  | false =>
  have HL4 := Lib.hid l4
  cases l5 : longB Li with
  | true =>
    have HL5 := Lib.hid l5
    have HS := Lib.hid (show R = true by rw [← hR]; simp [q0, q1, q2, q3, q4, q5, l0, l1, l2, l3, l4, l5])
    clear hR
    go_enter Tryd.func7, Tryd.ntmps7
    go_wp2_with (first
          | (exfalso; rename_i hu _; simp [undef] at hu; done)
          | (go_at_call 8; have pm := mk4; (fail_if_success (have := mk5)); refine (long _ h5 n5).mono ?_; rw [HL5.out]; rintro e w' ⟨rfl, rfl⟩; have mk5 := True.intro)
          | (go_at_call 8; have pm := mk3; (fail_if_success (have := mk4)); refine (long _ h4 n4).mono ?_; rw [HL4.out]; rintro e w' ⟨rfl, rfl⟩; have mk4 := True.intro)
          | (go_at_call 8; have pm := mk2; (fail_if_success (have := mk3)); refine (long _ h3 n3).mono ?_; rw [HL3.out]; rintro e w' ⟨rfl, rfl⟩; have mk3 := True.intro)
          | (go_at_call 8; have pm := mk1; (fail_if_success (have := mk2)); refine (long _ h2 n2).mono ?_; rw [HL2.out]; rintro e w' ⟨rfl, rfl⟩; have mk2 := True.intro)
          | (go_at_call 8; have pm := mk0; (fail_if_success (have := mk1)); refine (long _ h1 n1).mono ?_; rw [HL1.out]; rintro e w' ⟨rfl, rfl⟩; have mk1 := True.intro)
          | (go_at_call 8; (fail_if_success (have := mk0)); refine (long _ h0 n0).mono ?_; rw [HL0.out]; rintro e w' ⟨rfl, rfl⟩; have mk0 := True.intro))
    go_ret
    exact ⟨ret_bool HS.out.symm, hB⟩
  | false =>
  have HL5 := Lib.hid l5
  have HS := Lib.hid (show R = false by rw [← hR]; simp [q0, q1, q2, q3, q4, q5, l0, l1, l2, l3, l4, l5])
  clear hR
  go_enter Tryd.func7, Tryd.ntmps7
  go_wp2_with (first
        | (exfalso; rename_i hu _; simp [undef] at hu; done)
        | (go_at_call 8; have pm := mk4; (fail_if_success (have := mk5)); refine (long _ h5 n5).mono ?_; rw [HL5.out]; rintro e w' ⟨rfl, rfl⟩; have mk5 := True.intro)
        | (go_at_call 8; have pm := mk3; (fail_if_success (have := mk4)); refine (long _ h4 n4).mono ?_; rw [HL4.out]; rintro e w' ⟨rfl, rfl⟩; have mk4 := True.intro)
        | (go_at_call 8; have pm := mk2; (fail_if_success (have := mk3)); refine (long _ h3 n3).mono ?_; rw [HL3.out]; rintro e w' ⟨rfl, rfl⟩; have mk3 := True.intro)
        | (go_at_call 8; have pm := mk1; (fail_if_success (have := mk2)); refine (long _ h2 n2).mono ?_; rw [HL2.out]; rintro e w' ⟨rfl, rfl⟩; have mk2 := True.intro)
        | (go_at_call 8; have pm := mk0; (fail_if_success (have := mk1)); refine (long _ h1 n1).mono ?_; rw [HL1.out]; rintro e w' ⟨rfl, rfl⟩; have mk1 := True.intro)
        | (go_at_call 8; (fail_if_success (have := mk0)); refine (long _ h0 n0).mono ?_; rw [HL0.out]; rintro e w' ⟨rfl, rfl⟩; have mk0 := True.intro))
  go_ret
  exact ⟨ret_bool HS.out.symm, hB⟩
end Go.Proofs.YtcfmaeonginefaaDoor.Large
