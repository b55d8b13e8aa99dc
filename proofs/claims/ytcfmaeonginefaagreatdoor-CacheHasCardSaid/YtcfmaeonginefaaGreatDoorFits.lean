/- graftbedref03.Major, graftbedref03.Fits, semver.Fits: what they answer. -/
import Derived.Test.YtcfmaeonginefaaGreatDoorLocal
import Derived.Test.YtcfmaeonginefaaGreatDoorCompare
namespace Go.Proofs.YtcfmaeonginefaaGreatDoor.Fits
open Go Go.RowKit Go.Shelf Go.Proofs.YtcfmaeonginefaaGreatDoor.Seq Go.Proofs.YtcfmaeonginefaaGreatDoor.Cut Go.Proofs.YtcfmaeonginefaaGreatDoor.Elems Go.Proofs.YtcfmaeonginefaaGreatDoor.Paths Go.Proofs.YtcfmaeonginefaaGreatDoor.Made Go.Proofs.YtcfmaeonginefaaGreatDoor.Idents Go.Proofs.YtcfmaeonginefaaGreatDoor.Sign Go.Proofs.YtcfmaeonginefaaGreatDoor.Num3 Go.Proofs.YtcfmaeonginefaaGreatDoor.Parse Go.Proofs.YtcfmaeonginefaaGreatDoor.Parse3 Go.Proofs.YtcfmaeonginefaaGreatDoor.Compare3 Go.Proofs.YtcfmaeonginefaaGreatDoor.Canon3 Go.Proofs.YtcfmaeonginefaaGreatDoor.Compare Go.Proofs.YtcfmaeonginefaaGreatDoor.Major Go.Proofs.YtcfmaeonginefaaGreatDoor.Major3 Go.Proofs.YtcfmaeonginefaaGreatDoor.Hand01 Go.Proofs.YtcfmaeonginefaaGreatDoor.PathCmp
set_option linter.unusedSimpArgs false
set_option linter.unusedVariables false

set_option maxRecDepth 100000 in
set_option maxHeartbeats 4000000 in
theorem major3 (path : ByteArray) (hs : path.size ≤ 1048576) (w : World) : Calls Tryz.prog 73 #[.string path] w fun e w' => e = .returned (.int .i64 (majorB path)) ∧ Below w.heap.size w w' := by
  have hsz := elemsB_size path hs
  have hl := elems_len path hs
  by_cases hlt : (elemsB path).length < 2
  · have HR := Lib.hid (major_short hlt)
    obtain ⟨xs, hxs⟩ : ∃ xs, elemsB path = xs := ⟨_, rfl⟩
    rw [hxs] at hlt hl
    have HX := Lib.hid hxs
    have hi : (xs.length : Int) < 2 := by omega
    clear hsz hxs
    go_enter Tryz.func73, Tryz.ntmps73
    go_wp2_with (go_at_call 70; refine (elems01 path hs _).mono ?_; rw [HX.out]; rintro e1 w1 ⟨v1, rfl, hr1, hb1⟩; obtain ⟨A, ca, rfl, hA⟩ := rd_row hr1; clear hA hr1)
    go_ret
    exact ⟨ret_num HR.out.symm, hb1⟩
  obtain ⟨n, hn⟩ : ∃ n, (elemsB path).length = n + 1 := ⟨(elemsB path).length - 1, by omega⟩
  have hm := major_last hn (by omega)
  have hx := hsz _ (List.getElem_mem (l := elemsB path) (n := n) (by omega))
  rw [hm]
  obtain ⟨xs, hxs⟩ : ∃ xs, elemsB path = xs := ⟨_, rfl⟩
  have HX := Lib.hid hxs
  simp only [hxs] at hn hl hx hm ⊢
  rw [hn] at hl
  obtain ⟨x, hxe⟩ : ∃ x, xs[n]'(by omega) = x := ⟨_, rfl⟩
  rw [hxe] at hx ⊢
  have HXE := Lib.hid (show ∀ h : n < xs.length, xs[n] = x from fun _ => hxe)
  have HN := Lib.hid hn
  have hn1 : 1 ≤ n := by rw [hxs] at hlt; omega
  have hlt2 : ¬ ((n : Int) + 1) < 2 := by omega
  clear hxs hn hm hsz hxe hlt
  have enter : ∀ (R : Int), majorT x = R → ((x.size < 2) ∨ (∃ h : 0 < x.size, ¬ x.size < 2 ∧ ¬ (x[0].toNat : Int) = 118) ∨ (∃ h : 0 < x.size, ¬ x.size < 2 ∧ (x[0].toNat : Int) = 118 ∧ numR (x.extract 1 x.size) < 2) ∨ (∃ h : 0 < x.size, ¬ x.size < 2 ∧ (x[0].toNat : Int) = 118 ∧ ¬ numR (x.extract 1 x.size) < 2)) →
      Calls Tryz.prog 73 #[.string path] w fun e w' => e = .returned (.int .i64 R) ∧ Below w.heap.size w w' := by
    intro R hR hcase
    have hex : (x.extract 1 x.size).size ≤ 1048576 := by rw [ByteArray.size_extract]; omega
    rcases hcase with h | ⟨h0, h, k⟩ | ⟨h0, h, k, k2⟩ | ⟨h0, h, k, k2⟩
    · have e := majorT_short h
      rw [e] at hR
      subst hR
      have hi : (x.size : Int) < 2 := by omega
      clear h
      go_enter Tryz.func73, Tryz.ntmps73
      go_wp2_with (first | (exfalso; rename_i hu _; simp [undef] at hu; done) | (go_at_call 70; refine (elems01 path hs _).mono ?_; rw [HX.out]; rintro e1 w1 ⟨v1, rfl, hr1, hb1⟩; obtain ⟨A, ca, rfl, hA⟩ := rd_row hr1; obtain ⟨g, rfl, cx⟩ := hA n (by rw [HN.out]; omega); rw [HXE.out] at cx; rw [HN.out]; clear hA hr1))
      go_ret
      exact ⟨rfl, hb1⟩
    · have e := majorT_head h0 k
      rw [e] at hR
      subst hR
      have hi : ¬ (x.size : Int) < 2 := by omega
      have k1 : ((x[0].toNat : Int) != 118) = true := by simpa using k
      have k2 : ((x[0].toNat : Int) == 118) = false := by simpa using k
      clear h k
      go_enter Tryz.func73, Tryz.ntmps73
      go_wp2_with (first | (exfalso; rename_i hu _; simp [undef] at hu; done) | (go_at_call 70; refine (elems01 path hs _).mono ?_; rw [HX.out]; rintro e1 w1 ⟨v1, rfl, hr1, hb1⟩; obtain ⟨A, ca, rfl, hA⟩ := rd_row hr1; obtain ⟨g, rfl, cx⟩ := hA n (by rw [HN.out]; omega); rw [HXE.out] at cx; rw [HN.out]; clear hA hr1))
      go_ret
      exact ⟨rfl, hb1⟩
    · have e := majorT_small k2
      rw [e] at hR
      subst hR
      have hi : ¬ (x.size : Int) < 2 := by omega
      have hi2 : (1 : Int) ≤ x.size := by omega
      have k1 : ((x[0].toNat : Int) != 118) = false := by simpa using k
      have k3 : ((x[0].toNat : Int) == 118) = true := by simpa using k
      clear h k
      go_enter Tryz.func73, Tryz.ntmps73
      go_wp2_with (first | (exfalso; rename_i hu _; simp [undef] at hu; done) | (go_at_call 70; refine (elems01 path hs _).mono ?_; rw [HX.out]; rintro e1 w1 ⟨v1, rfl, hr1, hb1⟩; obtain ⟨A, ca, rfl, hA⟩ := rd_row hr1; obtain ⟨g, rfl, cx⟩ := hA n (by rw [HN.out]; omega); rw [HXE.out] at cx; rw [HN.out]; clear hA hr1) | (go_at_call 102; refine (number3 (x.extract 1 x.size) hex _).mono ?_; rintro e3 w3 ⟨rfl, rfl⟩))
      go_ret
      exact ⟨rfl, hb1⟩
    · have e := majorT_yes h0 k k2
      rw [e] at hR
      subst hR
      have hi : ¬ (x.size : Int) < 2 := by omega
      have hi2 : (1 : Int) ≤ x.size := by omega
      have k1 : ((x[0].toNat : Int) != 118) = false := by simpa using k
      have k3 : ((x[0].toNat : Int) == 118) = true := by simpa using k
      clear h k
      go_enter Tryz.func73, Tryz.ntmps73
      go_wp2_with (first | (exfalso; rename_i hu _; simp [undef] at hu; done) | (go_at_call 70; refine (elems01 path hs _).mono ?_; rw [HX.out]; rintro e1 w1 ⟨v1, rfl, hr1, hb1⟩; obtain ⟨A, ca, rfl, hA⟩ := rd_row hr1; obtain ⟨g, rfl, cx⟩ := hA n (by rw [HN.out]; omega); rw [HXE.out] at cx; rw [HN.out]; clear hA hr1) | (go_at_call 102; refine (number3 (x.extract 1 x.size) hex _).mono ?_; rintro e3 w3 ⟨rfl, rfl⟩))
      go_ret
      exact ⟨rfl, hb1⟩
  refine enter _ rfl ?_
  by_cases h : x.size < 2
  · exact .inl h
  have h0 : 0 < x.size := by omega
  by_cases k : (x[0].toNat : Int) = 118
  · by_cases k2 : numR (x.extract 1 x.size) < 2
    · exact .inr (.inr (.inl ⟨h0, h, k, k2⟩))
    · exact .inr (.inr (.inr ⟨h0, h, k, k2⟩))
  · exact .inr (.inl ⟨h0, h, k⟩)

def fitsN (n M : Int) (odd : Bool) : Int := if (0 < n ∧ M = n ∧ odd = false) ∨ (n = 0 ∧ M < 2 ∧ odd = false) ∨ (n = 0 ∧ ¬ M < 2 ∧ odd = true) then 0 else 31
/-- Does a version fit to its module's path? -/
def fitsB (path v : ByteArray) : Int := if (parseB v).2.2.2.2.2 = 0 then fitsN (majorB path) (parseB v).1 (incB (parseB v).2.2.2.2.1) else (parseB v).2.2.2.2.2

set_option maxRecDepth 100000 in
set_option maxHeartbeats 8000000 in
theorem fits3 (path v : ByteArray) (hs : path.size ≤ 1048576) (hv : v.size ≤ 1048576) (w : World) : Calls Tryz.prog 38 #[.string path, .string v] w fun e w' => e = .returned (.int .i64 (fitsB path v)) ∧ Below w.heap.size w w' := by
  obtain ⟨⟨M, m, p, pre, me, e⟩, hA⟩ : ∃ r, parseB v = r := ⟨_, rfl⟩
  have hC : fitsB path v = if e = 0 then fitsN (majorB path) M (incB me) else e := by unfold fitsB; rw [hA]
  rw [hC]
  have HA := Lib.hid hA
  have nn := majorB_nn path
  clear hA hC
  by_cases he : e = 0
  · rw [if_pos he]
    have q1 : (e != 0) = false := by simpa using he
    have q2 : (e == 0) = true := by simpa using he
    clear he
    obtain ⟨o, ho⟩ : ∃ o, incB me = o := ⟨_, rfl⟩
    obtain ⟨n, hn⟩ : ∃ n, majorB path = n := ⟨_, rfl⟩
    rw [hn] at nn
    rw [ho, hn]
    unfold incB at ho
    have HN := Lib.hid hn
    clear hn
    obtain ⟨r, hr⟩ : ∃ r, fitsN n M o = r := ⟨_, rfl⟩
    rw [hr]
    unfold fitsN at hr
    have hz : n = 0 ∨ 0 < n := by omega
    rcases hz with rfl | h0
    · by_cases hM : M < 2 <;> cases o
      all_goals
        simp [hM] at hr
        subst hr
        have hM2 : ¬ (0 : Int) < 0 := by omega
        go_enter Tryz.func38, Tryz.ntmps38
        go_wp2_with (first
          | (exfalso; rename_i hu _; simp [undef] at hu; done)
          | (go_at_call 71; refine (parse3x v hv HA.out _).mono ?_; rintro e1 w1 ⟨rfl, hb1⟩; have hbf : Below w.heap.size w (w1.alloc (.cells #[.int .i64 M, .int .i64 m, .int .i64 p, .string pre, .string me] 87)) := hb1.alloc hb1.size _)
          | (go_at_call 73; refine (major3 path hs _).mono ?_; rw [HN.out]; rintro e2 w2 ⟨rfl, hb2⟩; have hbx := hbf.trans (hb2.mono hbf.size); have h0b : w2.heap[w1.heap.size]? = some (.cells #[.int .i64 M, .int .i64 m, .int .i64 p, .string pre, .string me] 87) := (hb2.block _ (by simp)).trans (newAt _ _ _ rfl); obtain ⟨⟨p0, p1, p2, p3, p4⟩, f0, f1, f2, f3, f4⟩ := c5 h0b))
        go_ret
        exact ⟨rfl, hbx⟩
    · have hz1 : ¬ n = 0 := by omega
      have hz2 : (n == 0) = false := by simpa using hz1
      by_cases hM : M = n
      · cases o
        all_goals
          simp [hM, h0, hz1] at hr
          have hM1 : (M == n) = true := by simpa using hM
          clear hM hz1
          subst hr
          go_enter Tryz.func38, Tryz.ntmps38
          go_wp2_with (first
            | (exfalso; rename_i hu _; simp [undef] at hu; done)
            | (go_at_call 71; refine (parse3x v hv HA.out _).mono ?_; rintro e1 w1 ⟨rfl, hb1⟩; have hbf : Below w.heap.size w (w1.alloc (.cells #[.int .i64 M, .int .i64 m, .int .i64 p, .string pre, .string me] 87)) := hb1.alloc hb1.size _)
            | (go_at_call 73; refine (major3 path hs _).mono ?_; rw [HN.out]; rintro e2 w2 ⟨rfl, hb2⟩; have hbx := hbf.trans (hb2.mono hbf.size); have h0b : w2.heap[w1.heap.size]? = some (.cells #[.int .i64 M, .int .i64 m, .int .i64 p, .string pre, .string me] 87) := (hb2.block _ (by simp)).trans (newAt _ _ _ rfl); obtain ⟨⟨p0, p1, p2, p3, p4⟩, f0, f1, f2, f3, f4⟩ := c5 h0b))
          go_ret
          exact ⟨rfl, hbx⟩
      · simp [hM, hz1] at hr
        have hM1 : (M == n) = false := by simpa using hM
        clear hM hz1
        subst hr
        go_enter Tryz.func38, Tryz.ntmps38
        go_wp2_with (first
          | (exfalso; rename_i hu _; simp [undef] at hu; done)
          | (go_at_call 71; refine (parse3x v hv HA.out _).mono ?_; rintro e1 w1 ⟨rfl, hb1⟩; have hbf : Below w.heap.size w (w1.alloc (.cells #[.int .i64 M, .int .i64 m, .int .i64 p, .string pre, .string me] 87)) := hb1.alloc hb1.size _)
          | (go_at_call 73; refine (major3 path hs _).mono ?_; rw [HN.out]; rintro e2 w2 ⟨rfl, hb2⟩; have hbx := hbf.trans (hb2.mono hbf.size); have h0b : w2.heap[w1.heap.size]? = some (.cells #[.int .i64 M, .int .i64 m, .int .i64 p, .string pre, .string me] 87) := (hb2.block _ (by simp)).trans (newAt _ _ _ rfl); obtain ⟨⟨p0, p1, p2, p3, p4⟩, f0, f1, f2, f3, f4⟩ := c5 h0b))
        go_ret
        exact ⟨rfl, hbx⟩
  · rw [if_neg he]
    have q1 : (e != 0) = true := by simpa using he
    have q2 : (e == 0) = false := by simpa using he
    clear he
    go_enter Tryz.func38, Tryz.ntmps38
    go_wp2_with (go_at_call 71; refine (parse3x v hv HA.out _).mono ?_; rintro e1 w1 ⟨rfl, hb1⟩; have hbf : Below w.heap.size w (w1.alloc (.cells #[.int .i64 M, .int .i64 m, .int .i64 p, .string pre, .string me] 87)) := hb1.alloc hb1.size _)
    go_ret
    exact ⟨rfl, hbf⟩

/-- Two cells of one block that the call has made. -/
def K2 (w : World) (b : Nat) (a0 a4 : Value) (W : World) : Prop := W.cell? ⟨b, 0, none⟩ = some a0 ∧ W.cell? ⟨b, 4, none⟩ = some a4 ∧ Below w.heap.size w W ∧ b < W.heap.size
theorem k2_new {w w1 : World} (hb : Below w.heap.size w w1) (a0 a1 a2 a3 a4 : Value) (t : TypeId) : K2 w w1.heap.size a0 a4 (w1.alloc (.cells #[a0, a1, a2, a3, a4] t)).drew := by
  have h := c5 (V := (w1.alloc (.cells #[a0, a1, a2, a3, a4] t))) (newAt w1 (.cells #[a0, a1, a2, a3, a4] t) _ rfl)
  exact ⟨h.1.1, h.1.2.2.2.2, pw_drewN (hb.alloc hb.size _) 1, by show _ < (w1.alloc _).heap.size; simp⟩
theorem k2_keep {w W W' : World} {b : Nat} {a0 a4 : Value} (h : K2 w b a0 a4 W) (hb : Below W.heap.size W W') : K2 w b a0 a4 W' := by
  obtain ⟨c0, c4, hB, h1⟩ := h
  exact ⟨cellB hb h1 c0, cellB hb h1 c4, hB.trans (hb.mono hB.size), by have := hb.size; omega⟩

set_option maxRecDepth 100000 in
set_option maxHeartbeats 8000000 in
theorem fits (path v : ByteArray) (hs : path.size ≤ 1048576) (hv : v.size ≤ 1048576) (w : World) : Calls Tryz.prog 34 #[.string path, .string v] w fun e w' => e = .returned (.int .i64 (fitsB path v)) ∧ Below w.heap.size w w' := by
  obtain ⟨⟨M, m, p, pre, me, e⟩, hA⟩ : ∃ r, parseB v = r := ⟨_, rfl⟩
  have hC : fitsB path v = if e = 0 then fitsN (majorB path) M (incB me) else e := by unfold fitsB; rw [hA]
  rw [hC]
  have HA := Lib.hid hA
  have nn := majorB_nn path
  clear hA hC
  by_cases he : e = 0
  · rw [if_pos he]
    have q1 : (e != 0) = false := by simpa using he
    have q2 : (e == 0) = true := by simpa using he
    clear he
    obtain ⟨o, ho⟩ : ∃ o, incB me = o := ⟨_, rfl⟩
    obtain ⟨n, hn⟩ : ∃ n, majorB path = n := ⟨_, rfl⟩
    rw [hn] at nn
    rw [ho, hn]
    unfold incB at ho
    have HN := Lib.hid hn
    clear hn
    obtain ⟨r, hr⟩ : ∃ r, fitsN n M o = r := ⟨_, rfl⟩
    rw [hr]
    unfold fitsN at hr
    have hz : n = 0 ∨ 0 < n := by omega
    rcases hz with rfl | h0
    · by_cases hM : M < 2 <;> cases o
      all_goals
        simp [hM] at hr
        subst hr
        first
          | (have hM3 : decide (1 < M) = false := decide_eq_false (by omega))
          | (have hM3 : decide (1 < M) = true := decide_eq_true (by omega))
        go_enter Tryz.func34, Tryz.ntmps34
        go_wp2_with (go_at_call 54; refine (parseX v hv HA.out _).mono ?_; rintro e1 w1 ⟨rfl, hb1⟩; have hbf : K2 w w1.heap.size (.int .i64 M) (.string me) (w1.alloc (.cells #[.int .i64 M, .int .i64 m, .int .i64 p, .string pre, .string me] 72)).drew := k2_new hb1 _ _ _ _ _ _)
        go_region_held3 (fun w' => w'.cell? ⟨w1.heap.size, 0, none⟩ = some (.int .i64 M) ∧ w'.cell? ⟨w1.heap.size, 4, none⟩ = some (.string me) ∧ Below w.heap.size w w' ∧ w1.heap.size < w'.heap.size)
          (first
            | assumption
            | exact k2_keep ‹_› hb2
            | exact hbf)
          (first | (go_at_call 66; refine (major path hs _).mono ?_; rw [HN.out]; rintro e2 w2 ⟨rfl, hb2⟩))
        have hK := k2_keep hbf hb2
        obtain ⟨p0, p4, hbx, hlt⟩ := hK
        go_wp2_with (first | (exfalso; rename_i hu _; simp [undef] at hu; done))
        go_ret
        exact ⟨rfl, hbx⟩
    · have hz1 : ¬ n = 0 := by omega
      have hz2 : (n == 0) = false := by simpa using hz1
      by_cases hM : M = n
      · cases o
        all_goals
          simp [hM, h0, hz1] at hr
          have hM1 : (M == n) = true := by simpa using hM
          have hM2 : (M != n) = false := by simpa using hM
          clear hM hz1
          subst hr
          go_enter Tryz.func34, Tryz.ntmps34
          go_wp2_with (go_at_call 54; refine (parseX v hv HA.out _).mono ?_; rintro e1 w1 ⟨rfl, hb1⟩; have hbf : K2 w w1.heap.size (.int .i64 M) (.string me) (w1.alloc (.cells #[.int .i64 M, .int .i64 m, .int .i64 p, .string pre, .string me] 72)).drew := k2_new hb1 _ _ _ _ _ _)
          go_region_held3 (fun w' => w'.cell? ⟨w1.heap.size, 0, none⟩ = some (.int .i64 M) ∧ w'.cell? ⟨w1.heap.size, 4, none⟩ = some (.string me) ∧ Below w.heap.size w w' ∧ w1.heap.size < w'.heap.size)
            (first
              | assumption
              | exact k2_keep ‹_› hb2
              | exact hbf)
            (first | (go_at_call 66; refine (major path hs _).mono ?_; rw [HN.out]; rintro e2 w2 ⟨rfl, hb2⟩))
          have hK := k2_keep hbf hb2
          obtain ⟨p0, p4, hbx, hlt⟩ := hK
          go_wp2_with (first | (exfalso; rename_i hu _; simp [undef] at hu; done))
          go_ret
          exact ⟨rfl, hbx⟩
      · simp [hM, hz1] at hr
        have hM1 : (M == n) = false := by simpa using hM
        have hM2 : (M != n) = true := by simpa using hM
        clear hM hz1
        subst hr
        go_enter Tryz.func34, Tryz.ntmps34
        go_wp2_with (go_at_call 54; refine (parseX v hv HA.out _).mono ?_; rintro e1 w1 ⟨rfl, hb1⟩; have hbf : K2 w w1.heap.size (.int .i64 M) (.string me) (w1.alloc (.cells #[.int .i64 M, .int .i64 m, .int .i64 p, .string pre, .string me] 72)).drew := k2_new hb1 _ _ _ _ _ _)
        go_region_held3 (fun w' => w'.cell? ⟨w1.heap.size, 0, none⟩ = some (.int .i64 M) ∧ w'.cell? ⟨w1.heap.size, 4, none⟩ = some (.string me) ∧ Below w.heap.size w w' ∧ w1.heap.size < w'.heap.size)
          (first
            | assumption
            | exact k2_keep ‹_› hb2
            | exact hbf)
          (first | (go_at_call 66; refine (major path hs _).mono ?_; rw [HN.out]; rintro e2 w2 ⟨rfl, hb2⟩))
        have hK := k2_keep hbf hb2
        obtain ⟨p0, p4, hbx, hlt⟩ := hK
        go_wp2_with (first | (exfalso; rename_i hu _; simp [undef] at hu; done))
        go_ret
        exact ⟨rfl, hbx⟩
  · rw [if_neg he]
    have q1 : (e != 0) = true := by simpa using he
    have q2 : (e == 0) = false := by simpa using he
    clear he
    go_enter Tryz.func34, Tryz.ntmps34
    go_wp2_with (go_at_call 54; refine (parseX v hv HA.out _).mono ?_; rintro e1 w1 ⟨rfl, hb1⟩; have hbf : Below w.heap.size w (w1.alloc (.cells #[.int .i64 M, .int .i64 m, .int .i64 p, .string pre, .string me] 72)) := hb1.alloc hb1.size _)
    go_ret
    exact ⟨rfl, hbf⟩
end Go.Proofs.YtcfmaeonginefaaGreatDoor.Fits
